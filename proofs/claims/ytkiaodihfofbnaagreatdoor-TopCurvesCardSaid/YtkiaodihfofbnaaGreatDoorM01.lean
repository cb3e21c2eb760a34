/- X448 of a secret number and a point's u is the u of that number times the point (the law TopCurves): part 2 of 22 of its proof: what a region does, in whatever order it is drawn. No condition. -/
import Derived.Test.YtkiaodihfofbnaaGreatDoorM00
set_option linter.unusedVariables false
set_option linter.unusedSimpArgs false
namespace Go.Proofs.YtkiaodihfofbnaaGreatDoor.X
open Go Go.RowKit

/-- What the places hold, where it is known. -/
abbrev TV := Nat → Option AV

structure Rec where
  dst : Option Tmp
  v : AV
  eff : List (Nat × Blk)
  foot : List Nat
  ob : List Prop

def evalT (T : TV) : Operand → Option AV
  | .tmp t => T t
  | .const v => some (.g (.a (.v v)))
  | .func f => some (.g (.a (.v (.func (.func f) #[] #[]))))
  | .global _ => none

def operandsT (T : TV) : List Operand → Option (List AV)
  | [] => some []
  | x :: l => match evalT T x with
    | some v => match operandsT T l with
      | some r => some (v :: r)
      | none => none
    | none => none

/-- Whether a guarded operation is wanted. -/
def guardOf (ops : List Oper) (T : TV) (o : Oper) : Option Bool :=
  match o.guard with
  | none => some true
  | some (j, want) => match (ops[j]?).bind (·.dst) with
    | some d => match T d with
      | some (.g (.a (.v (.bool b)))) => some (b == want)
      | _ => none
    | none => none

def restr (H : View) (ks : List Nat) : View := fun k => if ks.contains k then H k else none

/-- How it is reckoned: whether places may be unknown; and which values are told otherwise than they are reckoned (that they are these must hold). -/
structure Md where
  sy : Bool
  as : List (Tmp × Value)
instance : Coe Bool Md := ⟨fun b => ⟨b, []⟩⟩

def told (as : List (Tmp × Value)) (dst : Option Tmp) (u : Out) : Option Out :=
  match as with
  | [] => some u
  | _ => match dst with
    | none => some u
    | some d => match as.lookup d with
      | none => some u
      | some X => match u.r with
        | .g (.a (.v x)) => some ⟨.g (.a (.v X)), u.eff, (x = X) :: u.ob⟩
        | _ => none
theorem told_sound {as : List (Tmp × Value)} {dst : Option Tmp} {u o : Out} (h : told as dst u = some o) (hob : Met o.ob) : Met u.ob ∧ o.eff = u.eff ∧ ∀ ρ, o.r.val ρ = u.r.val ρ := by
  unfold told at h
  split at h
  · obtain rfl := Option.some.inj h; exact ⟨hob, rfl, fun _ => rfl⟩
  · split at h
    · obtain rfl := Option.some.inj h; exact ⟨hob, rfl, fun _ => rfl⟩
    · split at h
      · obtain rfl := Option.some.inj h; exact ⟨hob, rfl, fun _ => rfl⟩
      · rename_i X _
        split at h
        · rename_i x hx
          obtain rfl := Option.some.inj h
          have e : x = X := hob _ List.mem_cons_self
          refine ⟨fun p hp => hob p (List.mem_cons_of_mem _ hp), rfl, fun ρ => ?_⟩
          rw [hx]
          show X = x
          exact e.symm
        · cases h

/-- What a call may look into: what it is handed, and what lies there. -/
def deep (H : View) (op : Op) (xs : List AV) : List Nat :=
  match op with
  | .call _ => footOf op xs ++ (footOf op xs).flatMap fun k => match H k with
    | some b => idsA b.cs
    | none => []
  | _ => footOf op xs

def stepOp (P : Program) (sp : Sp) (sy : Md) (ops : List Oper) (T : TV) (H : View) (o : Oper) (kn : Nat) : Option Rec :=
  match guardOf ops T o with
  | some true => match operandsT T o.op.operands.toList with
    | some xs => match absOp P sp sy.sy o.op o.type xs (restr H (deep H o.op xs)) kn with
      | some u => match told sy.as o.dst u with
        | some u => some ⟨o.dst, u.r, u.eff, deep H o.op xs, u.ob⟩
        | none => none
      | none => none
    | none => none
  | some false => some ⟨o.dst, .tup [], [], [], []⟩
  | none => none

def updT (T : TV) (r : Rec) : TV := fun t => if r.dst = some t then some r.v else T t

structure Rel (ρ : Rho) (a : Act) (n : Nat) (T : TV) : Prop where
  size : a.tmps.size = n
  defers : a.defers = []
  at_ : ∀ t v, T t = some v → a.tmps.getD t undef = v.val ρ

theorem evalT_sound {ρ : Rho} {a : Act} {n : Nat} {T : TV} (hr : Rel ρ a n T) {x : Operand} {v : AV} (h : evalT T x = some v) : a.eval x = v.val ρ := by
  cases x with
  | tmp t => exact hr.at_ t v h
  | const y => rw [evalT] at h; rw [← Option.some.inj h]; rfl
  | func f => rw [evalT] at h; rw [← Option.some.inj h]; rfl
  | global g => rw [evalT] at h; cases h

theorem operandsT_sound {ρ : Rho} {a : Act} {n : Nat} {T : TV} (hr : Rel ρ a n T) : ∀ {l : List Operand} {xs : List AV}, operandsT T l = some xs → l.map a.eval = xs.map (AV.val ρ)
  | [], xs, h => by rw [operandsT] at h; rw [← Option.some.inj h]; rfl
  | x :: l, xs, h => by
    rw [operandsT] at h
    split at h
    · rename_i v hv
      split at h
      · rename_i r hl
        rw [← Option.some.inj h, List.map_cons, List.map_cons, evalT_sound hr hv, operandsT_sound hr hl]
      · cases h
    · cases h

theorem evalT_congr {T T1 : TV} {x : Operand} (h : ∀ t, x = .tmp t → T1 t = T t) : evalT T1 x = evalT T x := by
  cases x with
  | tmp t => exact h t rfl
  | _ => rfl
theorem operandsT_congr {T T1 : TV} : ∀ {l : List Operand}, (∀ t, Operand.tmp t ∈ l → T1 t = T t) → operandsT T1 l = operandsT T l
  | [], _ => rfl
  | x :: l, h => by
    rw [operandsT, operandsT, evalT_congr (fun t e => h t (by simp [e])), operandsT_congr fun t ht => h t (List.mem_cons_of_mem _ ht)]

/-- A value that an operand gives names no block but those that the places name. -/
theorem operandsT_ids {T : TV} {kn : Nat} (hf : ∀ t v, T t = some v → kn ∉ v.ids) : ∀ {l : List Operand} {xs : List AV}, operandsT T l = some xs → kn ∉ idsL xs
  | [], xs, h => by rw [operandsT] at h; rw [← Option.some.inj h]; exact List.not_mem_nil
  | x :: l, xs, h => by
    rw [operandsT] at h
    split at h
    · rename_i v hv
      split at h
      · rename_i r hl
        rw [← Option.some.inj h]
        have e : idsL (v :: r) = v.ids ++ idsL r := by simp [idsL]
        rw [e, List.mem_append]
        rintro (hm | hm)
        · cases x with
          | tmp t => exact hf t v hv hm
          | const y => rw [evalT] at hv; rw [← Option.some.inj hv] at hm; simp [AV.ids, AV.atoms, G.atoms, idsA, At.ids] at hm
          | func f => rw [evalT] at hv; rw [← Option.some.inj hv] at hm; simp [AV.ids, AV.atoms, G.atoms, idsA, At.ids] at hm
          | global g => rw [evalT] at hv; cases hv
        · exact operandsT_ids hf hl hm
      · cases h
    · cases h

theorem Rel.put {ρ ρ' : Rho} {a : Act} {n : Nat} {T : TV} {kn : Nat} (hr : Rel ρ a n T) (hρ : ∀ k, k ≠ kn → ρ' k = ρ k) (hf : ∀ t v, T t = some v → kn ∉ v.ids) {dst : Option Tmp} {v : AV} {eff : List (Nat × Blk)} {foot : List Nat} {ob : List Prop} (hd : ∀ d, dst = some d → d < n) :
    Rel ρ' (a.put dst (v.val ρ')) n (updT T ⟨dst, v, eff, foot, ob⟩) := by
  refine ⟨?_, ?_, fun t u hu => ?_⟩
  · cases dst <;> simp [Act.put, hr.size]
  · cases dst <;> exact hr.defers
  · unfold updT at hu
    split at hu
    · rename_i e
      simp only at e
      subst e
      rw [← Option.some.inj hu]
      have := hd t rfl
      simp [Act.put, hr.size, this]
    · rename_i e
      have h1 := hr.at_ t u hu
      rw [← AV.val_congr (ρ := ρ) (ρ' := ρ') (x := u) fun k hk => hρ k fun ek => hf t u hu (ek ▸ hk)] at h1
      rw [← h1]
      cases dst with
      | none => rfl
      | some d =>
        have hne : d ≠ t := fun ed => e (by rw [ed])
        simp [Act.put, Array.getElem?_setIfInBounds_ne hne]

theorem wanted_of {ops : List Oper} {ρ : Rho} {a : Act} {n : Nat} {T : TV} (hr : Rel ρ a n T) {o : Oper} {b : Bool} (h : guardOf ops T o = some b) : Region.wanted o (yielded ops.toArray a.tmps) = b := by
  unfold guardOf at h
  unfold Region.wanted
  split at h
  · rename_i hg
    rw [hg]
    exact Option.some.inj h
  · rename_i j want hg
    rw [hg]
    split at h
    · rename_i d hd
      split at h
      · rename_i c hc
        rw [← Option.some.inj h]
        have h1 := hr.at_ d _ hc
        have h2 : a.tmps[d]? = some (.bool c) := by
          cases hh : a.tmps[d]? with
          | none => rw [Array.getD_eq_getD_getElem?, hh] at h1; cases h1
          | some x => rw [Array.getD_eq_getD_getElem?, hh] at h1; rw [show x = .bool c from h1]
        simp only [yielded, List.getElem?_toArray, hd, Option.bind_some, h2]
        cases c <;> cases want <;> rfl
      · cases h
    · cases h

theorem stepOp_sound {P : Program} {sp : Sp} (hsp : SpOk P sp) {sy : Md} {ops : List Oper} {i : Nat} {o : Oper} {rec : Rec} {T T1 : TV} {H H1 : View} {kn : Nat} (hi : ops[i]? = some o) (hs : stepOp P sp sy ops T H o kn = some rec) (hob : Met rec.ob)
    (hT : ∀ t ∈ o.looksAt ops.toArray, T1 t = T t) (hH : ∀ k ∈ rec.foot, H1 k = H k) (hn : H1 kn = none) (hfT : ∀ t v, T1 t = some v → kn ∉ v.ids) (hfH : ∀ k b, H1 k = some b → kn ∉ idsA b.cs)
    {ρ : Rho} {a : Act} {w0 : Base} {w : World} {n : Nat} (hr : Rel ρ a n T1) (hR : Ref w0 ρ w H1) (hd : ∀ d, o.dst = some d → d < n) {K : Act → World → Prop} {Q : Exit → Act → World → Prop}
    (hK : ∀ ρ' a' w', (∀ k, k ≠ kn → ρ' k = ρ k) → Rel ρ' a' n (updT T1 rec) → Ref w0 ρ' w' (updH H1 rec.eff) → K a' w') : wpOp P ops.toArray Q i K a w := by
  have hg : guardOf ops T1 o = guardOf ops T o := by
    unfold guardOf
    split
    · rfl
    · rename_i j want hgu
      split
      · rename_i d hdd
        rw [hT d (by simp [Oper.looksAt, hgu, hdd])]
      · rfl
  unfold stepOp at hs
  rw [← hg] at hs
  unfold wpOp
  simp only [List.getElem?_toArray, hi]
  split at hs
  · rename_i hb
    rw [if_pos (wanted_of hr hb)]
    split at hs
    · rename_i xs hx
      have hx1 : operandsT T1 o.op.operands.toList = some xs := by
        rw [operandsT_congr (T := T) fun t ht => hT t ?_]
        · exact hx
        · exact List.mem_append_left _ (List.mem_filterMap.2 ⟨.tmp t, ht, rfl⟩)
      split at hs
      · rename_i u hab
        split at hs
        · rename_i u' htold
          obtain rfl := Option.some.inj hs
          obtain ⟨hob', heff, hval⟩ := told_sound htold hob
          refine .inl (absOp_sound hsp hab hob' (fun k b hk => ?_) hR (operandsT_sound hr hx1) hn hfH (operandsT_ids hfT hx1) fun ρ' w' h1 h2 => ?_)
          · unfold restr at hk
            split at hk
            · rename_i hm
              rw [hH k (by simpa using hm)]
              exact hk
            · cases hk
          · rw [← hval ρ']
            exact hK ρ' _ w' h1 (hr.put h1 hfT hd) (by rw [heff]; exact h2)
        · cases hs
      · cases hs
    · cases hs
  · rename_i hb
    rw [if_neg (by rw [wanted_of hr hb]; decide)]
    obtain rfl := Option.some.inj hs
    exact hK ρ _ w (fun _ _ => rfl) (hr.put (v := .tup []) (eff := []) (foot := []) (ob := []) (fun _ _ => rfl) hfT hd) hR
  · cases hs

/-! ### The state as lists -/
def lk {β : Type} (l : List (Option β)) (k : Nat) : Option β := (l[k]?).join
theorem lk_none {β : Type} {l : List (Option β)} {k : Nat} (h : l.length ≤ k) : lk l k = none := by
  unfold lk
  rw [List.getElem?_eq_none h]; rfl
theorem lk_lt {β : Type} {l : List (Option β)} {k : Nat} {b : β} (h : lk l k = some b) : k < l.length := by
  rcases Nat.lt_or_ge k l.length with h1 | h1
  · exact h1
  · rw [lk_none h1] at h; cases h

def setT (T : List (Option AV)) (r : Rec) : List (Option AV) := match r.dst with
  | none => T
  | some d => T.set d (some r.v)
def setAt (H : List (Option Blk)) (k : Nat) (b : Blk) : List (Option Blk) := if k < H.length then H.set k (some b) else H ++ (List.replicate (k - H.length) none ++ [some b])
def setH (H : List (Option Blk)) : List (Nat × Blk) → List (Option Blk)
  | [] => H
  | (k, b) :: l => setAt (setH H l) k b

theorem lk_setT {T : List (Option AV)} {r : Rec} (hd : ∀ d, r.dst = some d → d < T.length) : lk (setT T r) = updT (lk T) r := by
  funext t
  unfold setT updT
  cases h : r.dst with
  | none => simp
  | some d =>
    simp only [lk, Option.some.injEq]
    by_cases e : d = t
    · subst e
      rw [List.getElem?_set_self (hd d h), if_pos rfl]; rfl
    · rw [List.getElem?_set_ne e, if_neg e]
theorem length_setT (T : List (Option AV)) (r : Rec) : (setT T r).length = T.length := by
  unfold setT
  cases r.dst <;> simp
theorem lk_setAt (H : List (Option Blk)) (k : Nat) (b : Blk) (j : Nat) : lk (setAt H k b) j = if j = k then some b else lk H j := by
  unfold setAt
  split
  · rename_i h
    unfold lk
    by_cases e : j = k
    · subst e; rw [List.getElem?_set_self h, if_pos rfl]; rfl
    · rw [List.getElem?_set_ne (Ne.symm e), if_neg e]
  · rename_i h
    unfold lk
    by_cases e : j = k
    · subst e
      rw [List.getElem?_append_right (by omega), List.getElem?_append_right (by simp), if_pos rfl]
      simp
    · rw [if_neg e]
      rcases Nat.lt_or_ge j H.length with h1 | h1
      · rw [List.getElem?_append_left h1]
      · rw [List.getElem?_append_right h1, List.getElem?_eq_none h1]
        rcases Nat.lt_or_ge (j - H.length) (k - H.length) with h2 | h2
        · rw [List.getElem?_append_left (by simpa using h2), List.getElem?_replicate]
          simp [h2]
        · rw [List.getElem?_append_right (by simpa using h2)]
          have : j - H.length - (List.replicate (k - H.length) (none : Option Blk)).length ≠ 0 := by simp; omega
          cases hh : j - H.length - (List.replicate (k - H.length) (none : Option Blk)).length with
          | zero => exact absurd hh this
          | succ m => rfl
theorem lk_setH (H : List (Option Blk)) : ∀ eff : List (Nat × Blk), lk (setH H eff) = updH (lk H) eff
  | [] => rfl
  | (k, b) :: l => by
    funext j
    rw [setH, lk_setAt, lk_setH H l]
    unfold updH
    by_cases e : j = k
    · subst e; rw [if_pos rfl, List.lookup_cons, beq_self_eq_true]; rfl
    · rw [if_neg e, List.lookup_cons, beq_false_of_ne e]
theorem length_setAt (H : List (Option Blk)) (k : Nat) (b : Blk) : H.length ≤ (setAt H k b).length := by
  unfold setAt
  split <;> simp
theorem length_setH (H : List (Option Blk)) : ∀ eff : List (Nat × Blk), H.length ≤ (setH H eff).length
  | [] => Nat.le_refl _
  | (_, _) :: l => Nat.le_trans (length_setH H l) (length_setAt _ _ _)

/-- All blocks that are named are numbers that have been given. -/
structure Bnd (T : List (Option AV)) (H : List (Option Blk)) : Prop where
  tv : ∀ t v, lk T t = some v → ∀ k ∈ v.ids, k < H.length
  hv : ∀ k b, lk H k = some b → ∀ j ∈ idsA b.cs, j < H.length

def ltAll (B : Nat) (l : List Nat) : Bool := l.all fun k => decide (k < B)
def dstOk (n : Nat) (d : Option Tmp) : Bool := match d with
  | none => true
  | some d => decide (d < n)
def effIds (eff : List (Nat × Blk)) : List Nat := eff.flatMap fun x => idsA x.2.cs
theorem dstOk_spec {n : Nat} {d : Option Tmp} (h : dstOk n d = true) : ∀ e, d = some e → e < n := by
  intro e he
  subst he
  simpa [dstOk] using h
theorem ltAll_spec {B : Nat} {l : List Nat} (h : ltAll B l = true) : ∀ k ∈ l, k < B := fun k hk => by
  have := List.all_eq_true.1 h k hk
  simpa using this

theorem effIds_lookup {eff : List (Nat × Blk)} {k : Nat} {b : Blk} (h : eff.lookup k = some b) : ∀ j ∈ idsA b.cs, j ∈ effIds eff := by
  intro j hj
  induction eff with
  | nil => cases h
  | cons x l ih =>
    obtain ⟨k', b'⟩ := x
    rw [List.lookup_cons] at h
    cases e : (k == k') with
    | true => rw [e] at h; obtain rfl := Option.some.inj h; simp [effIds, hj]
    | false =>
      rw [e] at h
      have := ih h
      unfold effIds at this ⊢
      rw [List.flatMap_cons]
      exact List.mem_append_right _ this

theorem Bnd.upd {T : List (Option AV)} {H : List (Option Blk)} (h : Bnd T H) {r : Rec} (hd : ∀ d, r.dst = some d → d < T.length) (h1 : ltAll (setH H r.eff).length r.v.ids = true) (h2 : ltAll (setH H r.eff).length (effIds r.eff) = true) : Bnd (setT T r) (setH H r.eff) := by
  have hl := length_setH H r.eff
  refine ⟨fun t v hv k hk => ?_, fun k b hb j hj => ?_⟩
  · rw [lk_setT hd] at hv
    unfold updT at hv
    split at hv
    · rw [← Option.some.inj hv] at hk; exact ltAll_spec h1 k hk
    · exact Nat.lt_of_lt_of_le (h.tv t v hv k hk) hl
  · rw [lk_setH] at hb
    unfold updH at hb
    cases e : r.eff.lookup k with
    | none => rw [e] at hb; exact Nat.lt_of_lt_of_le (h.hv k b hb j hj) hl
    | some b' =>
      rw [e] at hb
      obtain rfl := Option.some.inj hb
      exact ltAll_spec h2 j (effIds_lookup e j hj)

/-! ### A region in its own order -/
def runSeq (P : Program) (sp : Sp) (sy : Md) (ops : List Oper) : List Oper → List (Option AV) → List (Option Blk) → List Prop → Option (List (Option AV) × List (Option Blk) × List Prop)
  | [], T, H, O => some (T, H, O)
  | o :: l, T, H, O => match stepOp P sp sy ops (lk T) (lk H) o H.length with
    | some r => if dstOk T.length r.dst && ltAll (setH H r.eff).length r.v.ids && ltAll (setH H r.eff).length (effIds r.eff) then runSeq P sp sy ops l (setT T r) (setH H r.eff) (r.ob ++ O) else none
    | none => none

theorem stepOp_dst {P : Program} {sp : Sp} {sy : Md} {ops : List Oper} {T : TV} {H : View} {o : Oper} {kn : Nat} {r : Rec} (h : stepOp P sp sy ops T H o kn = some r) : r.dst = o.dst := by
  unfold stepOp at h
  split at h
  · split at h
    · split at h
      · split at h
        · rw [← Option.some.inj h]
        · cases h
      · cases h
    · cases h
  · rw [← Option.some.inj h]
  · cases h

theorem runSeq_ob {P : Program} {sp : Sp} {sy : Md} {ops : List Oper} : ∀ (l : List Oper) (T T' : List (Option AV)) (H H' : List (Option Blk)) (O O' : List Prop), runSeq P sp sy ops l T H O = some (T', H', O') → Met O' → Met O
  | [], T, T', H, H', O, O', h => by
    rw [runSeq] at h
    simp only [Option.some.injEq, Prod.mk.injEq] at h
    obtain ⟨_, _, rfl⟩ := h
    exact id
  | o :: l, T, T', H, H', O, O', h => by
    rw [runSeq] at h
    split at h
    · split at h
      · exact fun hm => (runSeq_ob l _ _ _ _ _ _ h hm).right
      · cases h
    · cases h

theorem runSeq_sound {P : Program} {sp : Sp} (hsp : SpOk P sp) {sy : Md} {ops : List Oper} {Q : Exit → Act → World → Prop} {w0 : Base} : ∀ (l : List Oper) (j : Nat) (T T' : List (Option AV)) (H H' : List (Option Blk)) (O O' : List Prop) (ρ : Rho) (a : Act) (w : World), ops.drop j = l →
    runSeq P sp sy ops l T H O = some (T', H', O') → Met O' → Bnd T H → Rel ρ a T.length (lk T) → Ref w0 ρ w (lk H) →
    (∀ ρ' a' w', (∀ k, k < H.length → ρ' k = ρ k) → Bnd T' H' → T'.length = T.length → H.length ≤ H'.length → Rel ρ' a' T'.length (lk T') → Ref w0 ρ' w' (lk H') → Q .normal a' w') → wpOps P ops.toArray Q (List.range' j l.length) a w
  | [], j, T, T', H, H', O, O', ρ, a, w, _, h, hob, hb, hr, hR, hk => by
    rw [runSeq] at h
    simp only [Option.some.injEq, Prod.mk.injEq] at h
    obtain ⟨rfl, rfl, _⟩ := h
    exact hk ρ a w (fun _ _ => rfl) hb rfl (Nat.le_refl _) hr hR
  | o :: l, j, T, T', H, H', O, O', ρ, a, w, hdrop, h, hob, hb, hr, hR, hk => by
    rw [runSeq] at h
    split at h
    · rename_i r hs
      split at h
      · rename_i hc
        rw [Bool.and_eq_true, Bool.and_eq_true] at hc
        have hd := dstOk_spec hc.1.1
        have hj : ops[j]? = some o := by
          have := congrArg (fun l => l[0]?) hdrop
          simpa using this
        rw [List.length_cons, List.range'_succ, wpOps_cons]
        refine stepOp_sound hsp hj hs (runSeq_ob l _ _ _ _ _ _ h hob).left (fun _ _ => rfl) (fun _ _ => rfl) (lk_none (Nat.le_refl _)) (fun t v hv hm => Nat.lt_irrefl _ (hb.tv t v hv _ hm)) (fun k b hv hm => Nat.lt_irrefl _ (hb.hv k b hv _ hm)) hr hR (fun d he => hd d ((stepOp_dst hs).trans he)) fun ρ' a' w' h1 h2 h3 => ?_
        refine runSeq_sound (w0 := w0) hsp l (j + 1) (setT T r) T' (setH H r.eff) H' _ O' ρ' a' w' ?_ h hob (hb.upd hd hc.1.2 hc.2) ?_ ?_ fun ρ'' a'' w'' e1 e2 e3 e4 e5 e6 => ?_
        · rw [← List.drop_drop, hdrop]; rfl
        · rw [length_setT, lk_setT hd]; exact h2
        · rw [lk_setH]; exact h3
        · refine hk ρ'' a'' w'' (fun k hk => ?_) e2 (e3.trans (length_setT _ _)) (Nat.le_trans (length_setH _ _) e4) e5 e6
          rw [e1 k (Nat.lt_of_lt_of_le hk (length_setH _ _)), h1 k (by omega)]
      · cases h
    · cases h

/-! ### In any order -/
/-- What was written last at a place, by those that are done. -/
def lastG {β : Type} (D : Nat → Bool) (wr : Rec → Option β) : Nat → List Rec → Option β → Option β
  | _, [], x => x
  | i, r :: l, x => lastG D wr (i + 1) l (if D i then (wr r).or x else x)

theorem lastG_none {β : Type} {D : Nat → Bool} {wr : Rec → Option β} : ∀ (l : List Rec) (i : Nat) (x : Option β), (∀ j r, l[j]? = some r → wr r ≠ none → D (i + j) = false) → lastG D wr i l x = x
  | [], _, _, _ => rfl
  | r :: l, i, x, h => by
    have h0 := h 0 r rfl
    have e : (if D i then (wr r).or x else x) = x := by
      cases hw : wr r with
      | none => cases D i <;> rfl
      | some v => rw [hw] at h0; rw [show D i = false from h0 (by simp)]; rfl
    rw [lastG, e]
    exact lastG_none l (i + 1) x fun j r' hj hw => by
      have := h (j + 1) r' hj hw
      rwa [show i + 1 + j = i + (j + 1) by omega]

theorem lastG_congr {β : Type} {D D' : Nat → Bool} {wr : Rec → Option β} : ∀ (l : List Rec) (i : Nat) (x : Option β), (∀ j r, l[j]? = some r → wr r ≠ none → D (i + j) = D' (i + j)) → lastG D wr i l x = lastG D' wr i l x
  | [], _, _, _ => rfl
  | r :: l, i, x, h => by
    have h0 := h 0 r rfl
    have e : (if D i then (wr r).or x else x) = (if D' i then (wr r).or x else x) := by
      cases hw : wr r with
      | none => cases D i <;> cases D' i <;> rfl
      | some v => rw [hw] at h0; rw [show D i = D' i from h0 (by simp)]
    rw [lastG, lastG, e]
    exact lastG_congr l (i + 1) _ fun j r' hj hw => by
      have := h (j + 1) r' hj hw
      rwa [show i + 1 + j = i + (j + 1) by omega]

theorem lastG_append {β : Type} {D : Nat → Bool} {wr : Rec → Option β} : ∀ (l1 l2 : List Rec) (i : Nat) (x : Option β), lastG D wr i (l1 ++ l2) x = lastG D wr (i + l1.length) l2 (lastG D wr i l1 x)
  | [], _, _, _ => rfl
  | r :: l1, l2, i, x => by
    rw [List.cons_append, lastG, lastG, lastG_append l1 l2 (i + 1), List.length_cons, show i + 1 + l1.length = i + (l1.length + 1) by omega]

theorem getElem?_take_lt {α : Type} {l : List α} {n j : Nat} {r : α} (h : (l.take n)[j]? = some r) : j < n ∧ l[j]? = some r := by
  have hj : j < (l.take n).length := (List.getElem?_eq_some_iff.1 h).1
  rw [List.length_take] at hj
  rw [List.getElem?_take_of_lt (by omega)] at h
  exact ⟨by omega, h⟩

/-- What an operation finds is what it finds in the regions' own order. -/
theorem lastG_seen {β : Type} {D : Nat → Bool} {wr : Rec → Option β} {recs : List Rec} {i : Nat} {x : Option β} (hi : i ≤ recs.length)
    (h1 : ∀ j r, j < i → recs[j]? = some r → wr r ≠ none → D j = true) (h2 : ∀ j r, i ≤ j → recs[j]? = some r → wr r ≠ none → D j = false) :
    lastG D wr 0 recs x = lastG (fun _ => true) wr 0 (recs.take i) x := by
  conv => lhs; rw [← List.take_append_drop i recs]
  rw [lastG_append, lastG_none]
  · refine lastG_congr _ _ _ fun j r hj hw => ?_
    obtain ⟨h3, h4⟩ := getElem?_take_lt hj
    rw [Nat.zero_add]
    exact h1 j r h3 h4 hw
  · intro j r hj hw
    rw [List.length_take, Nat.min_eq_left hi]
    rw [List.getElem?_drop] at hj
    rw [Nat.zero_add]
    exact h2 (i + j) r (by omega) hj hw

/-- One more is done. -/
theorem lastG_done {β : Type} {D : Nat → Bool} {wr : Rec → Option β} {recs : List Rec} {i : Nat} {ri : Rec} {x : Option β} (hi : recs[i]? = some ri) (hD : D i = false)
    (h : ∀ j r, i < j → recs[j]? = some r → wr r ≠ none → wr ri ≠ none → D j = false) :
    lastG (fun j => D j || j == i) wr 0 recs x = (wr ri).or (lastG D wr 0 recs x) := by
  have hlt : i < recs.length := (List.getElem?_eq_some_iff.1 hi).1
  have he : recs = recs.take i ++ ri :: recs.drop (i + 1) := by
    have e1 : recs[i] = ri := (List.getElem?_eq_some_iff.1 hi).2
    rw [← e1, List.getElem_cons_drop hlt, List.take_append_drop]
  have hl : (recs.take i).length = i := by rw [List.length_take]; omega
  cases hw : wr ri with
  | none =>
    rw [Option.none_or]
    refine lastG_congr _ _ _ fun j r hj hw' => ?_
    rw [Nat.zero_add]
    by_cases e : j = i
    · subst e; rw [hi] at hj; rw [← Option.some.inj hj] at hw'; exact absurd hw hw'
    · rw [beq_false_of_ne e, Bool.or_false]
  | some v =>
    rw [Option.some_or]
    conv => lhs; rw [he]
    rw [lastG_append, hl, lastG, lastG_none]
    · simp [hw]
    · intro j r hj hw'
      rw [List.getElem?_drop] at hj
      rw [show 0 + i + 1 + j = i + 1 + j by omega, beq_false_of_ne (by omega), Bool.or_false]
      exact h (i + 1 + j) r (by omega) hj hw' (by rw [hw]; simp)

def wrT (t : Tmp) (r : Rec) : Option AV := if r.dst = some t then some r.v else none
def wrH (k : Nat) (r : Rec) : Option Blk := r.eff.lookup k

theorem updT_eq (T : TV) (r : Rec) (t : Tmp) : updT T r t = (wrT t r).or (T t) := by
  unfold updT wrT
  split <;> rfl
theorem updH_eq (H : View) (r : Rec) (k : Nat) : updH H r.eff k = (wrH k r).or (H k) := rfl

/-! ### Who must be done ahead of whom -/
inductive Anc (ops : List Oper) : Nat → Nat → Prop
  | edge {j : Nat} {o : Oper} {e : Edge} : ops[j]? = some o → e ∈ o.after → Region.binds .any e = true → Anc ops e.on j
  | step {i j : Nat} {o : Oper} {e : Edge} : ops[j]? = some o → e ∈ o.after → Region.binds .any e = true → Anc ops i e.on → Anc ops i j

def maskOf (ms : List Nat) (o : Oper) : Nat := o.after.toList.foldl (fun m e => if Region.binds .any e then m ||| (2 ^ e.on) ||| (ms.getD e.on 0) else m) 0
def ancs : List Oper → List Nat → List Nat
  | [], ms => ms
  | o :: l, ms => ancs l (ms ++ [maskOf ms o])

theorem maskOf_fold (ms : List Nat) (i : Nat) : ∀ (l : List Edge) (m : Nat), (l.foldl (fun m e => if Region.binds .any e then m ||| (2 ^ e.on) ||| (ms.getD e.on 0) else m) m).testBit i = true →
    m.testBit i = true ∨ ∃ e ∈ l, Region.binds .any e = true ∧ (i = e.on ∨ (ms.getD e.on 0).testBit i = true)
  | [], m, h => .inl h
  | e :: l, m, h => by
    rw [List.foldl_cons] at h
    rcases maskOf_fold ms i l _ h with h1 | ⟨e', he', hb, h1⟩
    · split at h1
      · rename_i hb
        rw [Nat.testBit_or, Nat.testBit_or, Bool.or_eq_true, Bool.or_eq_true] at h1
        rcases h1 with (h1 | h1) | h1
        · exact .inl h1
        · rw [Nat.testBit_two_pow] at h1
          exact .inr ⟨e, by simp, hb, .inl (of_decide_eq_true h1).symm⟩
        · exact .inr ⟨e, by simp, hb, .inr h1⟩
      · exact .inl h1
    · exact .inr ⟨e', List.mem_cons_of_mem _ he', hb, h1⟩

theorem ancs_spec (ops : List Oper) : ∀ (l : List Oper) (ms : List Nat) (pre : List Oper), ops = pre ++ l → ms.length = pre.length → (∀ (j m : Nat), ms[j]? = some m → ∀ i, m.testBit i = true → Anc ops i j) →
    ∀ (j m : Nat), (ancs l ms)[j]? = some m → ∀ i, m.testBit i = true → Anc ops i j
  | [], ms, pre, _, _, h => h
  | o :: l, ms, pre, he, hl, h => by
    rw [ancs]
    refine ancs_spec ops l (ms ++ [maskOf ms o]) (pre ++ [o]) (by rw [he]; simp) (by simp [hl]) fun j m hj i hi => ?_
    rcases Nat.lt_or_ge j ms.length with h1 | h1
    · rw [List.getElem?_append_left h1] at hj
      exact h j m hj i hi
    · rw [List.getElem?_append_right h1] at hj
      have hj0 : j = ms.length := by
        have : j - ms.length < 1 := by simpa using (List.getElem?_eq_some_iff.1 hj).1
        omega
      subst hj0
      rw [Nat.sub_self] at hj
      have hm : maskOf ms o = m := by simpa using hj
      have ho : ops[ms.length]? = some o := by rw [he, List.getElem?_append_right (by omega), hl, Nat.sub_self]; rfl
      rw [← hm] at hi
      unfold maskOf at hi
      rcases maskOf_fold ms i _ _ hi with h2 | ⟨e, hem, hb, h2 | h2⟩
      · simp at h2
      · subst h2; exact .edge ho (by simpa using hem) hb
      · refine .step ho (by simpa using hem) hb ?_
        cases hx : ms[e.on]? with
        | none => rw [List.getD_eq_getElem?_getD, hx] at h2; simp at h2
        | some m' => rw [List.getD_eq_getElem?_getD, hx] at h2; exact h e.on m' hx i h2

/-- What is done has been done behind all that it must be behind of. -/
def Closed (ops : List Oper) (D : Nat → Bool) : Prop := ∀ j o e, D j = true → ops[j]? = some o → e ∈ o.after → Region.binds .any e = true → D e.on = true
theorem Anc.done {ops : List Oper} {D : Nat → Bool} (hc : Closed ops D) : ∀ {i j : Nat}, Anc ops i j → D j = true → D i = true := by
  intro i j h
  induction h with
  | edge ho he hb => exact fun hj => hc _ _ _ hj ho he hb
  | step ho he hb _ ih => exact fun hj => ih (hc _ _ _ hj ho he hb)
theorem Anc.ready {ops : List Oper} {D : Nat → Bool} (hc : Closed ops D) {i j : Nat} (h : Anc ops i j) (hr : ∀ o e, ops[j]? = some o → e ∈ o.after → Region.binds .any e = true → D e.on = true) : D i = true := by
  cases h with
  | edge ho he hb => exact hr _ _ ho he hb
  | step ho he hb h => exact h.done hc (hr _ _ ho he hb)

def keys (r : Rec) : List Nat := r.eff.map (·.1)
def meets (a b : List Nat) : Bool := a.any fun k => b.contains k
def confl (ops : Array Oper) (oi oj : Oper) (ri rj : Rec) : Bool := !(oi.apart ops oj) || meets (keys ri) (rj.foot ++ keys rj) || meets (keys rj) ri.foot
def mentions (r : Rec) : List Nat := r.v.ids ++ (effIds r.eff ++ keys r)

def runRec (P : Program) (sp : Sp) (sy : Md) (ops : List Oper) (base : Nat) : Nat → List Oper → List (Option AV) → List (Option Blk) → Option (List Rec × List (Option AV) × List (Option Blk))
  | _, [], T, H => some ([], T, H)
  | i, o :: l, T, H => match stepOp P sp sy ops (lk T) (lk H) o (base + i) with
    | some r => if dstOk T.length r.dst then (match runRec P sp sy ops base (i + 1) l (setT T r) (setH H r.eff) with
      | some (rs, T', H') => some (r :: rs, T', H')
      | none => none) else none
    | none => none

def drawAt (base : Nat) (ops : List Oper) (recs : List Rec) (ms : List Nat) (j : Nat) : Bool :=
  match ops[j]?, recs[j]?, ms[j]? with
  | some oj, some rj, some mj =>
    oj.after.toList.all (fun e => !Region.binds .any e || decide (e.on < j)) &&
    (List.range j).all (fun i => match ops[i]?, recs[i]? with
      | some oi, some ri => !(confl ops.toArray oi oj ri rj) || mj.testBit i
      | _, _ => false) &&
    (mentions rj).all (fun k => decide (k < base) || k == base + j || (decide (base ≤ k) && mj.testBit (k - base)))
  | _, _, _ => false
def drawOk (base : Nat) (ops : List Oper) (recs : List Rec) : Bool := (List.range ops.length).all (drawAt base ops recs (ancs ops []))

def bndB (T : List (Option AV)) (H : List (Option Blk)) : Bool :=
  T.all (fun x => match x with
    | some v => ltAll H.length v.ids
    | none => true) &&
  H.all (fun x => match x with
    | some b => ltAll H.length (idsA b.cs)
    | none => true)
theorem lk_mem {β : Type} {l : List (Option β)} {k : Nat} {b : β} (h : lk l k = some b) : some b ∈ l := by
  unfold lk at h
  cases hh : l[k]? with
  | none => rw [hh] at h; cases h
  | some x => rw [hh] at h; rw [show x = some b from h] at hh; exact List.mem_of_getElem? hh
theorem bndB_spec {T : List (Option AV)} {H : List (Option Blk)} (h : bndB T H = true) : Bnd T H := by
  unfold bndB at h
  rw [Bool.and_eq_true] at h
  refine ⟨fun t v hv k hk => ?_, fun k b hb j hj => ?_⟩
  · have := List.all_eq_true.1 h.1 _ (lk_mem hv)
    exact ltAll_spec this k hk
  · have := List.all_eq_true.1 h.2 _ (lk_mem hb)
    exact ltAll_spec this j hj

abbrev allD : Nat → Bool := fun _ => true
theorem lastG_shift {β : Type} {wr : Rec → Option β} : ∀ (l : List Rec) (i j : Nat) (x : Option β), lastG allD wr i l x = lastG allD wr j l x
  | [], _, _, _ => rfl
  | r :: l, i, j, x => by rw [lastG, lastG, lastG_shift l (i + 1) (j + 1)]

def seqT (recs : List Rec) (T : List (Option AV)) : TV := fun t => lastG allD (wrT t) 0 recs (lk T t)
def seqH (recs : List Rec) (H : List (Option Blk)) : View := fun k => lastG allD (wrH k) 0 recs (lk H k)

theorem runRec_spec {P : Program} {sp : Sp} {sy : Md} {ops : List Oper} {base : Nat} : ∀ (l : List Oper) (i : Nat) (T T' : List (Option AV)) (H H' : List (Option Blk)) (rs : List Rec), runRec P sp sy ops base i l T H = some (rs, T', H') →
    rs.length = l.length ∧ T'.length = T.length ∧ H.length ≤ H'.length ∧ lk T' = seqT rs T ∧ lk H' = seqH rs H ∧
    ∀ j o, l[j]? = some o → ∃ r, rs[j]? = some r ∧ dstOk T.length o.dst = true ∧ r.dst = o.dst ∧ stepOp P sp sy ops (seqT (rs.take j) T) (seqH (rs.take j) H) o (base + (i + j)) = some r
  | [], i, T, T', H, H', rs, h => by
    rw [runRec] at h
    simp only [Option.some.injEq, Prod.mk.injEq] at h
    obtain ⟨rfl, rfl, rfl⟩ := h
    exact ⟨rfl, rfl, Nat.le_refl _, rfl, rfl, fun j o hj => by cases hj⟩
  | o :: l, i, T, T', H, H', rs, h => by
    rw [runRec] at h
    split at h
    · rename_i r hs
      split at h
      · rename_i hd
        split at h
        · rename_i rs' T1 H1 hr
          simp only [Option.some.injEq, Prod.mk.injEq] at h
          obtain ⟨rfl, rfl, rfl⟩ := h
          obtain ⟨e1, e2, e3, e4, e5, e6⟩ := runRec_spec l (i + 1) _ _ _ _ _ hr
          have hdr := stepOp_dst hs
          have hT : ∀ rs : List Rec, seqT rs (setT T r) = seqT (r :: rs) T := fun rs => by
            funext t
            unfold seqT
            rw [lk_setT (dstOk_spec hd), updT_eq, lastG, lastG_shift _ 1 0]
            rfl
          have hH : ∀ rs : List Rec, seqH rs (setH H r.eff) = seqH (r :: rs) H := fun rs => by
            funext t
            unfold seqH
            rw [lk_setH, updH_eq, lastG, lastG_shift _ 1 0]
            rfl
          refine ⟨by simp [e1], e2.trans (length_setT _ _), Nat.le_trans (length_setH _ _) e3, by rw [e4, hT], by rw [e5, hH], fun j o' hj => ?_⟩
          cases j with
          | zero =>
            simp only [List.getElem?_cons_zero, Option.some.injEq] at hj
            subst hj
            exact ⟨r, rfl, by rw [← hdr]; exact hd, hdr, hs⟩
          | succ j =>
            rw [List.getElem?_cons_succ] at hj
            obtain ⟨r', h1, h2, h3, h4⟩ := e6 j o' hj
            rw [length_setT] at h2
            refine ⟨r', h1, h2, h3, ?_⟩
            rw [List.take_succ_cons, ← hT, ← hH, show i + (j + 1) = i + 1 + j by omega]
            exact h4
        · cases h
      · cases h
    · cases h

theorem cnt_lt (D : Nat → Bool) (j : Nat) (hD : D j = false) : ∀ n, j < n → (List.range n).countP (fun i => !(D i || i == j)) < (List.range n).countP (fun i => !D i)
  | 0, h => by omega
  | n + 1, h => by
    rw [List.range_succ, List.countP_append, List.countP_append]
    rcases Nat.lt_or_ge j n with h1 | h1
    · have ih := cnt_lt D j hD n h1
      have : List.countP (fun i => !(D i || i == j)) [n] ≤ List.countP (fun i => !D i) [n] := by
        refine List.countP_mono_left fun x _ hx => ?_
        cases hx' : D x <;> simp_all
      omega
    · have e : j = n := by omega
      subst e
      have h2 : (List.range j).countP (fun i => !(D i || i == j)) ≤ (List.range j).countP (fun i => !D i) := by
        refine List.countP_mono_left fun x _ hx => ?_
        cases hx' : D x <;> simp_all
      have h3 : List.countP (fun i => !(D i || i == j)) [j] = 0 := by simp
      have h4 : List.countP (fun i => !D i) [j] = 1 := by simp [hD]
      omega

theorem keys_ne {r : Rec} {k : Nat} (h : wrH k r ≠ none) : k ∈ keys r := by
  unfold wrH at h
  unfold keys
  revert h
  generalize r.eff = l
  intro h
  induction l with
  | nil => exact absurd rfl h
  | cons x l ih =>
    obtain ⟨k', b'⟩ := x
    rw [List.lookup_cons] at h
    cases e : (k == k') with
    | true => rw [beq_iff_eq.1 e]; simp
    | false => rw [e] at h; exact List.mem_cons_of_mem _ (ih h)
theorem wrH_ids {r : Rec} {k : Nat} {b : Blk} (h : wrH k r = some b) : ∀ j ∈ idsA b.cs, j ∈ effIds r.eff := effIds_lookup h
theorem wrT_ne {r : Rec} {t : Tmp} (h : wrT t r ≠ none) : r.dst = some t := by
  unfold wrT at h
  split at h
  · assumption
  · exact absurd rfl h
theorem meets_spec {a b : List Nat} {k : Nat} (h1 : k ∈ a) (h2 : k ∈ b) : meets a b = true := List.any_eq_true.2 ⟨k, h1, by simpa using h2⟩

/-- Whatever was written last was written by one that is done, or lay there. -/
theorem lastG_from {β : Type} {D : Nat → Bool} {wr : Rec → Option β} : ∀ (l : List Rec) (i : Nat) (x : Option β) (v : β), lastG D wr i l x = some v → x = some v ∨ ∃ j r, l[j]? = some r ∧ D (i + j) = true ∧ wr r = some v
  | [], i, x, v, h => .inl h
  | r :: l, i, x, v, h => by
    rw [lastG] at h
    rcases lastG_from l (i + 1) _ v h with h1 | ⟨j, r', h1, h2, h3⟩
    · cases hD : D i with
      | false => rw [hD] at h1; exact .inl h1
      | true =>
        rw [hD, if_pos rfl] at h1
        cases hw : wr r with
        | none => rw [hw, Option.none_or] at h1; exact .inl h1
        | some u => rw [hw, Option.some_or] at h1; exact .inr ⟨0, r, rfl, hD, by rw [hw]; exact h1⟩
    · exact .inr ⟨j + 1, r', h1, by rwa [show i + (j + 1) = i + 1 + j by omega], h3⟩

def recsOb (recs : List Rec) : List Prop := recs.flatMap (·.ob)

set_option maxHeartbeats 1000000 in
theorem wpAny_draw {P : Program} {sp : Sp} (hsp : SpOk P sp) {sy : Md} {ops : List Oper} {recs : List Rec} {T T' : List (Option AV)} {H H' : List (Option Blk)} (hrun : runRec P sp sy ops H.length 0 ops T H = some (recs, T', H')) (hmet : Met (recsOb recs))
    (hok : drawOk H.length ops recs = true) (hbT : Bnd T H) {w0 : Base} {ρ0 : Rho} {Q : Exit → Act → World → Prop}
    (hQ : ∀ ρ' a' w', (∀ k, k < H.length → ρ' k = ρ0 k) → Rel ρ' a' T'.length (lk T') → Ref w0 ρ' w' (lk H') → Q .normal a' w') :
    ∀ (fuel : Nat) (listed : Array Bool) (ρ : Rho) (a : Act) (w : World), listed.size = ops.length → Closed ops (fun i => listed.getD i false) →
      (List.range ops.length).countP (fun i => !(listed.getD i false)) ≤ fuel → Rel ρ a T.length (fun t => lastG (fun i => listed.getD i false) (wrT t) 0 recs (lk T t)) →
      Ref w0 ρ w (fun k => lastG (fun i => listed.getD i false) (wrH k) 0 recs (lk H k)) → (∀ k, k < H.length → ρ k = ρ0 k) → wpAny P .any ops.toArray Q fuel listed a w := by
  obtain ⟨hlen, hTlen, hHlen, hT', hH', hstep⟩ := runRec_spec ops 0 T T' H H' recs hrun
  have hanc : ∀ (j m : Nat), (ancs ops [])[j]? = some m → ∀ i, m.testBit i = true → Anc ops i j := ancs_spec ops ops [] [] rfl rfl (fun j m hj => by cases hj)
  -- what drawOk says
  have hall : ∀ j oj, ops[j]? = some oj → ∃ rj, recs[j]? = some rj ∧ (∀ e ∈ oj.after, Region.binds .any e = true → e.on < j) ∧
      (∀ i oi ri, i < j → ops[i]? = some oi → recs[i]? = some ri → confl ops.toArray oi oj ri rj = true → Anc ops i j) ∧
      (∀ k ∈ mentions rj, k < H.length ∨ k = H.length + j ∨ ∃ i, k = H.length + i ∧ Anc ops i j) := by
    intro j oj hj
    have hjl : j < ops.length := (List.getElem?_eq_some_iff.1 hj).1
    have h := List.all_eq_true.1 hok j (List.mem_range.2 hjl)
    unfold drawAt at h
    split at h
    · rename_i oj' rj mj h1 h2 h3
      rw [hj] at h1
      obtain rfl := Option.some.inj h1
      rw [Bool.and_eq_true, Bool.and_eq_true] at h
      obtain ⟨⟨ha, hb⟩, hc⟩ := h
      refine ⟨rj, h2, fun e he hbd => ?_, fun i oi ri hi ho hri hcf => ?_, fun k hk => ?_⟩
      · have := List.all_eq_true.1 ha e (by simpa using he)
        rw [hbd] at this
        simpa using this
      · have := List.all_eq_true.1 hb i (List.mem_range.2 hi)
        rw [ho, hri] at this
        simp only [hcf, Bool.not_true, Bool.false_or] at this
        exact hanc j mj h3 i this
      · have := List.all_eq_true.1 hc k hk
        rw [Bool.or_eq_true, Bool.or_eq_true, Bool.and_eq_true] at this
        rcases this with (h4 | h4) | ⟨h4, h5⟩
        · exact .inl (of_decide_eq_true h4)
        · exact .inr (.inl (beq_iff_eq.1 h4))
        · have h4 := of_decide_eq_true h4
          exact .inr (.inr ⟨k - H.length, by omega, hanc j mj h3 _ h5⟩)
    · cases h
  -- when all is done
  have hfin : ∀ (listed : Array Bool) (ρ : Rho) (a : Act) (w : World), (∀ i, i < ops.length → listed.getD i false = true) → Rel ρ a T.length (fun t => lastG (fun i => listed.getD i false) (wrT t) 0 recs (lk T t)) →
      Ref w0 ρ w (fun k => lastG (fun i => listed.getD i false) (wrH k) 0 recs (lk H k)) → (∀ k, k < H.length → ρ k = ρ0 k) → Q .normal a w := by
    intro listed ρ a w hd hr hR hρ
    have h1 : (fun t => lastG (fun i => listed.getD i false) (wrT t) 0 recs (lk T t)) = lk T' := by
      rw [hT']
      funext t
      refine lastG_congr _ _ _ fun j r hj _ => ?_
      rw [Nat.zero_add]
      exact hd j (by rw [← hlen]; exact (List.getElem?_eq_some_iff.1 hj).1)
    have h2 : (fun k => lastG (fun i => listed.getD i false) (wrH k) 0 recs (lk H k)) = lk H' := by
      rw [hH']
      funext t
      refine lastG_congr _ _ _ fun j r hj _ => ?_
      rw [Nat.zero_add]
      exact hd j (by rw [← hlen]; exact (List.getElem?_eq_some_iff.1 hj).1)
    rw [h1, ← hTlen] at hr
    rw [h2] at hR
    exact hQ ρ a w hρ hr hR
  -- the least one that is not done can be done
  have hprog : ∀ (listed : Array Bool), listed.size = ops.length → Region.ready .any ops.toArray listed = [] → ∀ i, i < ops.length → listed.getD i false = true := by
    intro listed hsz hnil i
    induction i using Nat.strongRecOn with
    | _ i ih =>
      intro hi
      cases hd : listed.getD i false with
      | true => rfl
      | false =>
        have ho : ops[i]? = some ops[i] := List.getElem?_eq_getElem hi
        obtain ⟨rj, _, hed, _, _⟩ := hall i _ ho
        have : i ∈ Region.ready .any ops.toArray listed := mem_ready.2 ⟨by
          rw [Array.getD_eq_getD_getElem?] at hd ⊢
          rw [Array.getElem?_eq_getElem (by omega)] at hd ⊢
          exact hd, ops[i], by rw [List.getElem?_toArray]; exact ho, fun e he hb => ih e.on (hed e he hb) (by have := hed e he hb; omega)⟩
        rw [hnil] at this
        cases this
  intro fuel
  induction fuel with
  | zero =>
    intro listed ρ a w hsz hcl hcnt hr hR hρ
    have hd : ∀ i, i < ops.length → listed.getD i false = true := by
      intro i hi
      have := List.countP_eq_zero.1 (Nat.le_zero.1 hcnt) i (List.mem_range.2 hi)
      cases hd : listed.getD i false with
      | true => rfl
      | false => rw [hd] at this; exact absurd rfl this
    refine ⟨?_, hfin listed ρ a w hd hr hR hρ⟩
    cases hrd : Region.ready .any ops.toArray listed with
    | nil => rfl
    | cons x xs =>
      have hx : x ∈ Region.ready .any ops.toArray listed := by rw [hrd]; simp
      obtain ⟨h0, o, ho, _⟩ := mem_ready.1 hx
      have hlt : x < ops.length := by
        have := (Array.getElem?_eq_some_iff.1 ho).1
        simpa using this
      have h1 := hd x hlt
      rw [Array.getD_eq_getD_getElem?] at h0 h1
      rw [Array.getElem?_eq_getElem (by omega)] at h0 h1
      simp only [Option.getD_some] at h0 h1
      rw [h0] at h1; cases h1
  | succ fuel ih =>
    intro listed ρ a w hsz hcl hcnt hr hR hρ
    refine ⟨fun hnil => hfin listed ρ a w (hprog listed hsz hnil) hr hR hρ, fun i hi => ?_⟩
    obtain ⟨h0, o, ho, hrd⟩ := mem_ready.1 hi
    have hlt : i < ops.length := by
      have := (Array.getElem?_eq_some_iff.1 ho).1
      simpa using this
    have ho' : ops[i]? = some o := by simpa using ho
    have hDi : listed.getD i false = false := by
      rw [Array.getD_eq_getD_getElem?] at h0 ⊢
      rw [Array.getElem?_eq_getElem (by omega)] at h0 ⊢
      exact h0
    obtain ⟨r, hri, hdo, hdr, hst⟩ := hstep i o ho'
    obtain ⟨r', hri', hed, hcf, hmen⟩ := hall i o ho'
    rw [hri] at hri'
    obtain rfl := Option.some.inj hri'
    rw [Nat.zero_add] at hst
    have hready : ∀ o' e, ops[i]? = some o' → e ∈ o'.after → Region.binds .any e = true → listed.getD e.on false = true := fun o' e h1 h2 h3 => by
      rw [ho'] at h1
      obtain rfl := Option.some.inj h1
      exact hrd e h2 h3
    have hbefore : ∀ {j}, Anc ops j i → listed.getD j false = true := fun h => Anc.ready (D := fun i => listed.getD i false) hcl h hready
    have hbehind : ∀ {j}, Anc ops i j → listed.getD j false = false := fun {j} h => by
      cases hd : listed.getD j false with
      | false => rfl
      | true =>
        have := Anc.done (D := fun i => listed.getD i false) hcl h hd
        rw [hDi] at this; cases this
    have oper : ∀ {j : Nat} {rj : Rec}, recs[j]? = some rj → ∃ oj : Oper, ops[j]? = some oj ∧ rj.dst = oj.dst := fun {j rj} hj => by
      have hjl : j < ops.length := by rw [← hlen]; exact (List.getElem?_eq_some_iff.1 hj).1
      have ho : ops[j]? = some ops[j] := List.getElem?_eq_getElem hjl
      obtain ⟨r2, h1, _, h2, _⟩ := hstep j _ ho
      rw [hj] at h1
      obtain rfl := Option.some.inj h1
      exact ⟨_, ho, h2⟩
    -- a writer of what this one looks at
    have tmpB : ∀ j rj t, t ∈ o.looksAt ops.toArray → j < i → recs[j]? = some rj → wrT t rj ≠ none → listed.getD j false = true := fun j rj t ht hj hrj hw => by
      obtain ⟨oj, hoj, hdj⟩ := oper hrj
      refine hbefore (hcf j oj rj hj hoj hrj ?_)
      have hap : oj.apart ops.toArray o = false := by
        cases hap : oj.apart ops.toArray o with
        | false => rfl
        | true => exact absurd ht ((Oper.apart_spec hap).1 t (hdj.symm.trans (wrT_ne hw)))
      unfold confl
      rw [hap]; rfl
    have tmpA : ∀ j rj t, t ∈ o.looksAt ops.toArray → i ≤ j → recs[j]? = some rj → wrT t rj ≠ none → listed.getD j false = false := fun j rj t ht hj hrj hw => by
      rcases Nat.eq_or_lt_of_le hj with e | hlt'
      · subst e; exact hDi
      · obtain ⟨oj, hoj, hdj⟩ := oper hrj
        obtain ⟨rj', h1, _, hcj, _⟩ := hall j oj hoj
        rw [hrj] at h1
        obtain rfl := Option.some.inj h1
        refine hbehind (hcj i o r hlt' ho' hri ?_)
        have hap : o.apart ops.toArray oj = false := by
          cases hap : o.apart ops.toArray oj with
          | false => rfl
          | true => exact absurd ht ((Oper.apart_spec hap).2.2 t (hdj.symm.trans (wrT_ne hw)))
        unfold confl
        rw [hap]; rfl
    have dstA : ∀ j rj t, i < j → recs[j]? = some rj → wrT t rj ≠ none → wrT t r ≠ none → listed.getD j false = false := fun j rj t hj hrj hw hw' => by
      obtain ⟨oj, hoj, hdj⟩ := oper hrj
      obtain ⟨rj', h1, _, hcj, _⟩ := hall j oj hoj
      rw [hrj] at h1
      obtain rfl := Option.some.inj h1
      refine hbehind (hcj i o r hj ho' hri ?_)
      have hap : o.apart ops.toArray oj = false := by
        cases hap : o.apart ops.toArray oj with
        | false => rfl
        | true => exact absurd (hdj.symm.trans (wrT_ne hw)) ((Oper.apart_spec hap).2.1 t (hdr.symm.trans (wrT_ne hw')))
      unfold confl
      rw [hap]; rfl
    have memB : ∀ j rj k, k ∈ r.foot → j < i → recs[j]? = some rj → wrH k rj ≠ none → listed.getD j false = true := fun j rj k hk hj hrj hw => by
      obtain ⟨oj, hoj, hdj⟩ := oper hrj
      refine hbefore (hcf j oj rj hj hoj hrj ?_)
      unfold confl
      rw [meets_spec (keys_ne hw) (List.mem_append_left _ hk)]
      simp
    have memA : ∀ j rj k, k ∈ r.foot → i ≤ j → recs[j]? = some rj → wrH k rj ≠ none → listed.getD j false = false := fun j rj k hk hj hrj hw => by
      rcases Nat.eq_or_lt_of_le hj with e | hlt'
      · subst e; exact hDi
      · obtain ⟨oj, hoj, hdj⟩ := oper hrj
        obtain ⟨rj', h1, _, hcj, _⟩ := hall j oj hoj
        rw [hrj] at h1
        obtain rfl := Option.some.inj h1
        refine hbehind (hcj i o r hlt' ho' hri ?_)
        unfold confl
        rw [meets_spec (keys_ne hw) hk]
        simp
    have keyA : ∀ j rj k, i < j → recs[j]? = some rj → wrH k rj ≠ none → wrH k r ≠ none → listed.getD j false = false := fun j rj k hj hrj hw hw' => by
      obtain ⟨oj, hoj, hdj⟩ := oper hrj
      obtain ⟨rj', h1, _, hcj, _⟩ := hall j oj hoj
      rw [hrj] at h1
      obtain rfl := Option.some.inj h1
      refine hbehind (hcj i o r hj ho' hri ?_)
      unfold confl
      rw [meets_spec (keys_ne hw') (List.mem_append_right _ (keys_ne hw))]
      simp
    -- nobody who is done names the number of this one
    have fresh : ∀ j rj, recs[j]? = some rj → listed.getD j false = true → H.length + i ∉ mentions rj := fun j rj hrj hd hm => by
      obtain ⟨oj, hoj, _⟩ := oper hrj
      obtain ⟨rj', h1, _, _, hmj⟩ := hall j oj hoj
      rw [hrj] at h1
      obtain rfl := Option.some.inj h1
      rcases hmj _ hm with h2 | h2 | ⟨i', h2, h3⟩
      · omega
      · have : i = j := by omega
        subst this
        rw [hDi] at hd; cases hd
      · have : i = i' := by omega
        subst this
        rw [hbehind h3] at hd; cases hd
    have hile : i ≤ recs.length := by omega
    refine stepOp_sound hsp ho' hst (fun p hp => hmet p (List.mem_flatMap.2 ⟨r, List.mem_of_getElem? hri, hp⟩)) (T1 := fun t => lastG (fun i => listed.getD i false) (wrT t) 0 recs (lk T t)) (H1 := fun k => lastG (fun i => listed.getD i false) (wrH k) 0 recs (lk H k)) ?_ ?_ ?_ ?_ ?_ hr hR (fun d hd => dstOk_spec hdo d hd) ?_
    · intro t ht
      exact lastG_seen hile (fun j rj hj hrj hw => tmpB j rj t ht hj hrj hw) (fun j rj hj hrj hw => tmpA j rj t ht hj hrj hw)
    · intro k hk
      exact lastG_seen hile (fun j rj hj hrj hw => memB j rj k hk hj hrj hw) (fun j rj hj hrj hw => memA j rj k hk hj hrj hw)
    · cases hl : lastG (fun i => listed.getD i false) (wrH (H.length + i)) 0 recs (lk H (H.length + i)) with
      | none => rfl
      | some b =>
        rcases lastG_from _ _ _ _ hl with h1 | ⟨j, rj, h1, h2, h3⟩
        · rw [lk_none (by omega)] at h1; cases h1
        · rw [Nat.zero_add] at h2
          exact absurd (by unfold mentions; simp [keys_ne (show wrH (H.length + i) rj ≠ none by rw [h3]; simp)]) (fresh j rj h1 h2)
    · intro t v hv hm
      rcases lastG_from _ _ _ _ hv with h1 | ⟨j, rj, h1, h2, h3⟩
      · have := hbT.tv t v h1 _ hm; omega
      · rw [Nat.zero_add] at h2
        have e : rj.v = v := by
          unfold wrT at h3
          split at h3
          · exact Option.some.inj h3
          · cases h3
        exact fresh j rj h1 h2 (by unfold mentions; rw [e]; simp [hm])
    · intro k b hb hm
      rcases lastG_from _ _ _ _ hb with h1 | ⟨j, rj, h1, h2, h3⟩
      · have := hbT.hv k b h1 _ hm; omega
      · rw [Nat.zero_add] at h2
        exact fresh j rj h1 h2 (by unfold mentions; simp [wrH_ids h3 _ hm])
    · intro ρ' a' w' h1 h2 h3
      have hD' : ∀ j, (listed.setIfInBounds i true).getD j false = (listed.getD j false || j == i) := fun j => by
        by_cases e : j = i
        · subst e
          have : j < listed.size := by omega
          simp [this]
        · rw [getD_set_ne false (Ne.symm e), beq_false_of_ne e, Bool.or_false]
      have hDf : (fun j => (listed.setIfInBounds i true).getD j false) = fun j => (listed.getD j false || j == i) := funext hD'
      refine ih (listed.setIfInBounds i true) ρ' a' w' (by simp [hsz]) ?_ ?_ ?_ ?_ ?_
      · intro j oj e hj hoj he hb
        simp only [hD'] at hj ⊢
        rw [Bool.or_eq_true] at hj ⊢
        rcases hj with hj | hj
        · exact .inl (hcl j oj e hj hoj he hb)
        · rw [beq_iff_eq] at hj
          subst hj
          exact .inl (hready oj e hoj he hb)
      · have := cnt_lt (fun i => listed.getD i false) i hDi ops.length hlt
        have e : (fun j => !((listed.setIfInBounds i true).getD j false)) = fun j => !(listed.getD j false || j == i) := by funext j; rw [hD']
        rw [e]
        omega
      · rw [hDf]
        have e : (fun t => lastG (fun j => listed.getD j false || j == i) (wrT t) 0 recs (lk T t)) = updT (fun t => lastG (fun i => listed.getD i false) (wrT t) 0 recs (lk T t)) r := by
          funext t
          rw [updT_eq]
          exact lastG_done hri hDi fun j rj hj hrj hw hw' => dstA j rj t hj hrj hw hw'
        rw [e]; exact h2
      · rw [hDf]
        have e : (fun k => lastG (fun j => listed.getD j false || j == i) (wrH k) 0 recs (lk H k)) = updH (fun k => lastG (fun i => listed.getD i false) (wrH k) 0 recs (lk H k)) r.eff := by
          funext k
          rw [updH_eq]
          exact lastG_done hri hDi fun j rj hj hrj hw hw' => keyA j rj k hj hrj hw hw'
        rw [e]; exact h3
      · intro k hk
        rw [h1 k (by omega), hρ k hk]
end Go.Proofs.YtkiaodihfofbnaaGreatDoor.X
