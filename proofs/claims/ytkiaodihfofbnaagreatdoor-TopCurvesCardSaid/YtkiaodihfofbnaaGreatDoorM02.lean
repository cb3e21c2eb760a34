/- X448 of a secret number and a point's u is the u of that number times the point (the law TopCurves): part 3 of 22 of its proof: what a piece of code and a function do; contracts. No condition. -/
import Derived.Test.YtkiaodihfofbnaaGreatDoorM01
import Derived.LoopN
set_option linter.unusedVariables false
set_option linter.unusedSimpArgs false
namespace Go.Proofs.YtkiaodihfofbnaaGreatDoor.X
open Go Go.RowKit

inductive Ex where
  | normal
  | exit (id : Nat)
  | ret
def Ex.out : Ex → Exit
  | .normal => .normal
  | .exit id => .exit id
  | .ret => .ret

structure St where
  T : List (Option AV)
  H : List (Option Blk)
  ob : List Prop

structure StOk (w0 : Base) (ρ : Rho) (st : St) (a : Act) (w : World) : Prop where
  bnd : Bnd st.T st.H
  rel : Rel ρ a st.T.length (lk st.T)
  ref : Ref w0 ρ w (lk st.H)

/-- One state comes behind another one: what was named keeps its name. -/
structure Next (ρ ρ' : Rho) (st st' : St) : Prop where
  agree : ∀ k, k < st.H.length → ρ' k = ρ k
  lenT : st'.T.length = st.T.length
  lenH : st.H.length ≤ st'.H.length
theorem Next.refl (ρ : Rho) (st : St) : Next ρ ρ st st := ⟨fun _ _ => rfl, rfl, Nat.le_refl _⟩
theorem Next.trans {ρ ρ' ρ'' : Rho} {s s' s'' : St} (h : Next ρ ρ' s s') (k : Next ρ' ρ'' s' s'') : Next ρ ρ'' s s'' :=
  ⟨fun i hi => (k.agree i (Nat.lt_of_lt_of_le hi h.lenH)).trans (h.agree i hi), k.lenT.trans h.lenT, Nat.le_trans h.lenH k.lenH⟩

def regionA (P : Program) (sp : Sp) (sy : Md) (draw : Bool) (ops : List Oper) (st : St) : Option St :=
  match draw with
  | false => match runSeq P sp sy ops ops st.T st.H st.ob with
    | some (T, H, O) => some ⟨T, H, O⟩
    | none => none
  | true => match runRec P sp sy ops st.H.length 0 ops st.T st.H with
    | some (recs, T, H) => if drawOk st.H.length ops recs && bndB T H then some ⟨T, H, recsOb recs ++ st.ob⟩ else none
    | none => none

def loopX (ex : St → Option (Ex × St)) : Nat → St → Option (Ex × St)
  | 0, _ => none
  | m + 1, st => match ex st with
    | some (.normal, st') => loopX ex m st'
    | r => r

def exec (P : Program) (sp : Sp) (sy : Md) : Nat → Code → St → Option (Ex × St)
  | 0, _, _ => none
  | n + 1, c, st => match c with
    | .skip => some (.normal, st)
    | .region _ ops draw => match regionA P sp sy draw ops.toList st with
      | some st' => some (.normal, st')
      | none => none
    | .seq a b => match exec P sp sy n a st with
      | some (.normal, st') => exec P sp sy n b st'
      | r => r
    | .cond c x y => match evalT (lk st.T) c with
      | some (.g (.a (.v (.bool true)))) => exec P sp sy n x st
      | some (.g (.a (.v (.bool false)))) => exec P sp sy n y st
      | _ => none
    | .block id c => match exec P sp sy n c st with
      | some (.exit id', st') => if id' = id then some (.normal, st') else some (.exit id', st')
      | r => r
    | .loop c => loopX (exec P sp sy n c) n st
    | .exit id => some (.exit id, st)
    | .ret => some (.ret, st)
    | .label _ => some (.normal, st)
    | .scope c => exec P sp sy n c st
    | _ => none

section
variable {P : Program} {sp : Sp} {sy : Md} {w0 : Base} {Q : Exit → Act → World → Prop}

theorem regionA_ob {draw : Bool} {ops : List Oper} {st st' : St} (h : regionA P sp sy draw ops st = some st') (hm : Met st'.ob) : Met st.ob := by
  unfold regionA at h
  split at h
  · split at h
    · rename_i hr
      obtain rfl := Option.some.inj h
      exact runSeq_ob _ _ _ _ _ _ _ hr hm
    · cases h
  · split at h
    · split at h
      · obtain rfl := Option.some.inj h
        exact Met.right hm
      · cases h
    · cases h

theorem regionA_sound (hm : P.follows .mixedOrders = true) (hsp : SpOk P sp) {id : Nat} {draw : Bool} {ops : Array Oper} {st st' : St} (h : regionA P sp sy draw ops.toList st = some st') (hob : Met st'.ob) {ρ : Rho} {a : Act} {w : World} (hs : StOk w0 ρ st a w)
    (hk : ∀ ρ' a' w', Next ρ ρ' st st' → StOk w0 ρ' st' a' w' → Q .normal a' w') : (Code.region id ops draw).wp P Q a w := by
  unfold regionA at h
  cases draw with
  | false =>
    simp only at h
    split at h
    · rename_i T H O hr
      obtain rfl := Option.some.inj h
      refine wp_region ?_
      have := runSeq_sound (w0 := w0) (Q := Q) hsp ops.toList 0 st.T T st.H H st.ob O ρ a w rfl hr hob hs.bnd hs.rel hs.ref fun ρ' a' w' h1 h2 h3 h4 h5 h6 => hk ρ' a' w' ⟨h1, h3, h4⟩ ⟨h2, h5, h6⟩
      rw [Array.toArray_toList] at this
      rw [List.range_eq_range', ← Array.length_toList]
      exact this
    · cases h
  | true =>
    simp only at h
    split at h
    · rename_i recs T H hr
      split at h
      · rename_i hc
        rw [Bool.and_eq_true] at hc
        obtain rfl := Option.some.inj h
        refine wp_region_any hm ?_
        obtain ⟨hlen, hTl, hHl, _⟩ := runRec_spec _ _ _ _ _ _ _ hr
        have hR : Ref w0 ρ { w with drawn := w.drawn + 1 } (lk st.H) := hs.ref.later ⟨rfl, rfl, rfl, Nat.le_refl _, fun _ _ => rfl⟩
        have hf : ∀ i, (Array.replicate ops.size false).getD i false = false := fun i => by
          rw [Array.getD_eq_getD_getElem?, Array.getElem?_replicate]
          split <;> rfl
        have e1 : ∀ {β : Type} (wr : Rec → Option β) (x : Option β), lastG (fun i => (Array.replicate ops.size false).getD i false) wr 0 recs x = x := fun wr x => lastG_none _ _ _ fun j r _ _ => hf _
        have := wpAny_draw (P := P) hsp hr (Met.left hob) hc.1 hs.bnd (w0 := w0) (ρ0 := ρ) (Q := Q) (fun ρ' a' w' h1 h2 h3 => hk ρ' a' w' ⟨h1, hTl, hHl⟩ ⟨bndB_spec hc.2, h2, h3⟩) ops.size (Array.replicate ops.size false) ρ a { w with drawn := w.drawn + 1 } (by simp)
          (fun j o e hj => by simp only [hf] at hj; cases hj)
          (by
            refine Nat.le_trans List.countP_le_length ?_
            simp)
          (by
            have e2 : (fun t => lastG (fun i => (Array.replicate ops.size false).getD i false) (wrT t) 0 recs (lk st.T t)) = lk st.T := funext fun t => e1 _ _
            rw [e2]; exact hs.rel)
          (by
            have e2 : (fun t => lastG (fun i => (Array.replicate ops.size false).getD i false) (wrH t) 0 recs (lk st.H t)) = lk st.H := funext fun t => e1 _ _
            rw [e2]; exact hR)
          (fun _ _ => rfl)
        rw [Array.toArray_toList] at this
        exact this
      · cases h
    · cases h

theorem loopX_ob {ex : St → Option (Ex × St)} (hex : ∀ st st' e, ex st = some (e, st') → Met st'.ob → Met st.ob) : ∀ (m : Nat) (st st' : St) (e : Ex), loopX ex m st = some (e, st') → Met st'.ob → Met st.ob
  | 0, _, _, _, h => by cases h
  | m + 1, st, st', e, h => by
    rw [loopX] at h
    split at h
    · rename_i st1 h1
      exact fun hm => hex _ _ _ h1 (loopX_ob hex m _ _ _ h hm)
    · exact fun hm => hex _ _ _ h hm

theorem exec_ob : ∀ (n : Nat) (c : Code) (st st' : St) (ex : Ex), exec P sp sy n c st = some (ex, st') → Met st'.ob → Met st.ob := by
  intro n
  induction n with
  | zero => intro c st st' ex h; cases h
  | succ n ih =>
    intro c st st' ex h hm
    rw [exec.eq_def] at h
    simp only at h
    split at h
    · obtain ⟨_, rfl⟩ := Prod.mk.inj (Option.some.inj h); exact hm
    · split at h
      · rename_i hr
        obtain ⟨_, rfl⟩ := Prod.mk.inj (Option.some.inj h)
        exact regionA_ob hr hm
      · cases h
    · split at h
      · rename_i h1
        exact ih _ _ _ _ h1 (ih _ _ _ _ h hm)
      · exact ih _ _ _ _ h hm
    · split at h
      · exact ih _ _ _ _ h hm
      · exact ih _ _ _ _ h hm
      · cases h
    · split at h
      · rename_i h1
        refine ih _ _ _ _ h1 ?_
        split at h <;> (obtain ⟨_, rfl⟩ := Prod.mk.inj (Option.some.inj h); exact hm)
      · exact ih _ _ _ _ h hm
    · exact loopX_ob (fun st st' e h hm => ih _ _ _ _ h hm) _ _ _ _ h hm
    · obtain ⟨_, rfl⟩ := Prod.mk.inj (Option.some.inj h); exact hm
    · obtain ⟨_, rfl⟩ := Prod.mk.inj (Option.some.inj h); exact hm
    · obtain ⟨_, rfl⟩ := Prod.mk.inj (Option.some.inj h); exact hm
    · exact ih _ _ _ _ h hm
    · cases h

theorem exec_sound (hm : P.follows .mixedOrders = true) (hsp : SpOk P sp) : ∀ (n : Nat) (c : Code) (st st' : St) (ex : Ex) (ρ : Rho) (a : Act) (w : World) (Q : Exit → Act → World → Prop), exec P sp sy n c st = some (ex, st') → Met st'.ob → StOk w0 ρ st a w →
    (∀ ρ' a' w', Next ρ ρ' st st' → StOk w0 ρ' st' a' w' → Q ex.out a' w') → c.wp P Q a w := by
  intro n
  induction n with
  | zero => intro c st st' ex ρ a w Q h; cases h
  | succ n ih =>
    intro c st st' ex ρ a w Q h hob hs hk
    rw [exec.eq_def] at h
    simp only at h
    split at h
    · obtain ⟨rfl, rfl⟩ := Prod.mk.inj (Option.some.inj h)
      exact wp_skip (hk ρ a w (Next.refl _ _) hs)
    · split at h
      · rename_i st1 hr
        obtain ⟨rfl, rfl⟩ := Prod.mk.inj (Option.some.inj h)
        exact regionA_sound hm hsp hr hob hs hk
      · cases h
    · -- seq
      rename_i x y
      refine wp_seq ?_
      split at h
      · rename_i st1 h1
        refine ih x st st1 .normal ρ a w _ h1 (exec_ob _ _ _ _ _ h hob) hs fun ρ1 a1 w1 n1 s1 => ?_
        exact ih y st1 st' ex ρ1 a1 w1 _ h hob s1 fun ρ2 a2 w2 n2 s2 => hk ρ2 a2 w2 (n1.trans n2) s2
      · rename_i hne
        refine ih x st st' ex ρ a w _ h hob hs fun ρ1 a1 w1 n1 s1 => ?_
        cases ex with
        | normal => exact absurd h (hne st')
        | exit id => exact hk ρ1 a1 w1 n1 s1
        | ret => exact hk ρ1 a1 w1 n1 s1
    · -- cond
      rename_i c x y
      split at h
      · rename_i hc
        exact wp_cond_true (evalT_sound hs.rel hc) (ih x st st' ex ρ a w Q h hob hs hk)
      · rename_i hc
        exact wp_cond_false (evalT_sound hs.rel hc) (ih y st st' ex ρ a w Q h hob hs hk)
      · cases h
    · -- block
      rename_i id c
      refine wp_block ?_
      split at h
      · rename_i id' st1 h1
        have hob1 : Met st1.ob := by
          split at h <;> (obtain ⟨_, rfl⟩ := Prod.mk.inj (Option.some.inj h); exact hob)
        refine ih c st st1 (.exit id') ρ a w _ h1 hob1 hs fun ρ1 a1 w1 n1 s1 => ?_
        split at h
        · rename_i e
          obtain ⟨rfl, rfl⟩ := Prod.mk.inj (Option.some.inj h)
          show (if id' = id then Q .normal a1 w1 else Q (.exit id') a1 w1)
          rw [if_pos e]
          exact hk ρ1 a1 w1 n1 s1
        · rename_i e
          obtain ⟨rfl, rfl⟩ := Prod.mk.inj (Option.some.inj h)
          show (if id' = id then Q .normal a1 w1 else Q (.exit id') a1 w1)
          rw [if_neg e]
          exact hk ρ1 a1 w1 n1 s1
      · rename_i hne
        refine ih c st st' ex ρ a w _ h hob hs fun ρ1 a1 w1 n1 s1 => ?_
        cases ex with
        | normal => exact hk ρ1 a1 w1 n1 s1
        | exit id' => exact absurd h (hne id' st')
        | ret => exact hk ρ1 a1 w1 n1 s1
    · -- loop
      rename_i c
      have key : ∀ (m : Nat) (st st' : St) (ex : Ex) (ρ : Rho) (a : Act) (w : World), loopX (exec P sp sy n c) m st = some (ex, st') → Met st'.ob → StOk w0 ρ st a w →
          (∀ ρ' a' w', Next ρ ρ' st st' → StOk w0 ρ' st' a' w' → Q ex.out a' w') → Code.rounds P c Q m a w := by
        intro m
        induction m with
        | zero => intro st st' ex ρ a w h; cases h
        | succ m ihm =>
          intro st st' ex ρ a w h hob hs hk
          rw [loopX] at h
          rw [rounds_succ]
          split at h
          · rename_i st1 h1
            refine ih c st st1 .normal ρ a w _ h1 (loopX_ob (fun st st' e h hm => exec_ob _ _ _ _ _ h hm) _ _ _ _ h hob) hs fun ρ1 a1 w1 n1 s1 => ?_
            exact ihm st1 st' ex ρ1 a1 w1 h hob s1 fun ρ2 a2 w2 n2 s2 => hk ρ2 a2 w2 (n1.trans n2) s2
          · rename_i hne
            refine ih c st st' ex ρ a w _ h hob hs fun ρ1 a1 w1 n1 s1 => ?_
            cases ex with
            | normal => exact absurd h (hne st')
            | exit id => exact hk ρ1 a1 w1 n1 s1
            | ret => exact hk ρ1 a1 w1 n1 s1
      exact wp_loop_rounds n (key n st st' ex ρ a w h hob hs hk)
    · obtain ⟨rfl, rfl⟩ := Prod.mk.inj (Option.some.inj h)
      exact wp_exit (hk ρ a w (Next.refl _ _) hs)
    · obtain ⟨rfl, rfl⟩ := Prod.mk.inj (Option.some.inj h)
      exact wp_ret (hk ρ a w (Next.refl _ _) hs)
    · obtain ⟨rfl, rfl⟩ := Prod.mk.inj (Option.some.inj h)
      exact wp_label (hk ρ a w (Next.refl _ _) hs)
    · rename_i c
      refine wp_scope_straight (ih c st st' ex ρ a w _ h hob hs fun ρ1 a1 w1 n1 s1 => ?_)
      cases ex <;> exact hk ρ1 a1 w1 n1 s1
    · cases h
end

/-! ### A function -/
def resA (P : Program) (T : TV) (H : View) : ResultVar → Option G
  | .tmp t => match T t with
    | some (.g x) => some x
    | _ => none
  | .cell a t => match T a with
    | some (.g (.a (.p k off))) => match opLoad P t k off H with
      | some ⟨.g x, _, []⟩ => some x
      | _ => none
    | _ => none
def resL (P : Program) (T : TV) (H : View) : List ResultVar → Option (List G)
  | [] => some []
  | x :: l => match resA P T H x, resL P T H l with
    | some v, some r => some (v :: r)
    | _, _ => none
def packA : List G → AV
  | [x] => .g x
  | l => .tup l

def startT (fn : Func) (args : List AV) : List (Option AV) := args.map some ++ List.replicate (fn.ntmps - args.length) none

def runFn (P : Program) (sp : Sp) (sy : Md) (n : Nat) (fn : Func) (args : List AV) (H : List (Option Blk)) : Option (AV × St) :=
  match fn.body with
  | some c => match exec P sp sy n c ⟨startT fn args, H, []⟩ with
    | some (.normal, st) => match resL P (lk st.T) (lk st.H) fn.results.toList with
      | some l => some (packA l, st)
      | none => none
    | some (.ret, st) => match resL P (lk st.T) (lk st.H) fn.results.toList with
      | some l => some (packA l, st)
      | none => none
    | _ => none
  | none => none

def resS (tmps : Array Value) : ResultVar → Sem Value
  | .tmp t => pure (tmps.getD t undef)
  | .cell b t => do loadVar t (← asAddr (tmps.getD b undef))

theorem resA_sound {P : Program} {w0 : Base} {w : World} {ρ : Rho} {st : St} {a : Act} (hs : StOk w0 ρ st a w) {x : ResultVar} {v : G} (h : resA P (lk st.T) (lk st.H) x = some v) : (resS a.tmps x).run P w = .ok (v.val ρ) w := by
  cases x with
  | tmp t =>
    simp only [resA] at h
    split at h
    · rename_i y hy
      rw [← Option.some.inj h]
      simp only [resS]
      rw [hs.rel.at_ t _ hy]; rfl
    · cases h
  | cell b t =>
    simp only [resA] at h
    split at h
    · rename_i k off hb
      split at h
      · rename_i y hl
        rw [← Option.some.inj h]
        simp only [resS]
        rw [hs.rel.at_ b _ hb]
        have := (load_sound hl (fun p hp => by cases hp) (V := lk st.H) (fun _ h => h) hs.ref).1
        unfold Instr.loadAt at this
        exact this
      · cases h
    · cases h

theorem resL_sound {P : Program} {w0 : Base} {w : World} {ρ : Rho} {st : St} {a : Act} (hs : StOk w0 ρ st a w) : ∀ {l : List ResultVar} {r : List G}, resL P (lk st.T) (lk st.H) l = some r →
    (l.mapM (resS a.tmps) : Sem (List Value)).run P w = .ok (r.map (G.val ρ)) w
  | [], r, h => by rw [resL] at h; rw [← Option.some.inj h]; rfl
  | x :: l, r, h => by
    rw [resL] at h
    split at h
    · rename_i v r' h1 h2
      rw [List.mapM_cons, ← Option.some.inj h]
      refine (run_ok (resA_sound hs h1)).trans ?_
      refine (run_ok (resL_sound hs h2)).trans rfl
    · cases h

theorem results_eq (fn : Func) (tmps : Array Value) : results fn tmps = (do let vs ← fn.results.mapM (resS tmps); pure (if h : vs.size = 1 then vs[0] else .tuple vs)) := by
  unfold results
  have : resS tmps = fun x => (match x with
    | .tmp t => pure (tmps.getD t undef)
    | .cell a t => do loadVar t (← asAddr (tmps.getD a undef)) : Sem Value) := by
    funext x
    cases x <;> rfl
  rw [this]
  rfl

theorem results_sound {P : Program} {w0 : Base} {w : World} {ρ : Rho} {st : St} {a : Act} (hs : StOk w0 ρ st a w) {fn : Func} {l : List G} (h : resL P (lk st.T) (lk st.H) fn.results.toList = some l) :
    (results fn a.tmps).run P w = .ok ((packA l).val ρ) w := by
  rw [results_eq]
  have e := resL_sound hs h
  refine (run_ok (a := (l.map (G.val ρ)).toArray) (w' := w) ?_).trans ?_
  · conv => lhs; rw [← Array.toArray_toList (xs := fn.results)]
    rw [List.mapM_toArray]
    refine (Sem.run_map P w _ _).trans ?_
    rw [e]; rfl
  · match l with
    | [] => rfl
    | [x] => rfl
    | x :: y :: l =>
      rw [dif_neg (by simp)]
      rfl

theorem startT_rel (ρ : Rho) (fn : Func) (args : List AV) : Rel ρ { tmps := argsV ρ args ++ Array.replicate (fn.ntmps - (argsV ρ args).size) undef, defers := [] } (startT fn args).length (lk (startT fn args)) := by
  refine ⟨?_, rfl, fun t v hv => ?_⟩
  · simp [startT, argsV]
  · unfold lk startT at hv
    rcases Nat.lt_or_ge t args.length with h1 | h1
    · rw [List.getElem?_append_left (by simpa using h1), List.getElem?_map, List.getElem?_eq_getElem h1] at hv
      have e : args[t] = v := by simpa using hv
      rw [Array.getD_eq_getD_getElem?, Array.getElem?_append_left (by simpa [argsV] using h1)]
      simp [argsV, List.getElem?_eq_getElem h1, e]
    · rw [List.getElem?_append_right (by simpa using h1), List.getElem?_replicate] at hv
      split at hv <;> cases hv

theorem runFn_sound {P : Program} {sp : Sp} (hm : P.follows .mixedOrders = true) (hsp : SpOk P sp) {sy : Md} {f : FuncId} {fn : Func} (hf : P.funcs[f]? = some fn) {n : Nat} {args : List AV} {H : List (Option Blk)} {r : AV} {st : St} (h : runFn P sp sy n fn args H = some (r, st)) (hob : Met st.ob)
    (hb : Bnd (startT fn args) H) {w0 : Base} {w : World} {ρ : Rho} (hR : Ref w0 ρ w (lk H)) :
    Calls P f (argsV ρ args) w fun e w' => ∃ ρ', (∀ k, k < H.length → ρ' k = ρ k) ∧ H.length ≤ st.H.length ∧ e = .returned (r.val ρ') ∧ Ref w0 ρ' w' (lk st.H) ∧ Bnd st.T st.H := by
  unfold runFn at h
  split at h
  · rename_i c hc
    refine calls_of_wp hf hc ?_
    have hs : StOk w0 ρ ⟨startT fn args, H, []⟩ { tmps := argsV ρ args ++ Array.replicate (fn.ntmps - (argsV ρ args).size) undef, defers := [] } w := ⟨hb, startT_rel ρ fn args, hR⟩
    have fin : ∀ (ex : Ex) (st1 : St) (l : List G), (ex = .normal ∨ ex = .ret) → exec P sp sy n c ⟨startT fn args, H, []⟩ = some (ex, st1) → resL P (lk st1.T) (lk st1.H) fn.results.toList = some l → some (packA l, st1) = some (r, st) →
        c.wp P (bodyPost P fn fun e w' => ∃ ρ', (∀ k, k < H.length → ρ' k = ρ k) ∧ H.length ≤ st.H.length ∧ e = .returned (r.val ρ') ∧ Ref w0 ρ' w' (lk st.H) ∧ Bnd st.T st.H) { tmps := argsV ρ args ++ Array.replicate (fn.ntmps - (argsV ρ args).size) undef, defers := [] } w := by
      intro ex st1 l hex he hl e
      obtain ⟨rfl, rfl⟩ := Prod.mk.inj (Option.some.inj e)
      refine exec_sound hm hsp n c _ st1 ex ρ _ w _ he hob hs fun ρ' a' w' hnx hs' => ?_
      have hres := results_sound hs' hl
      rcases hex with rfl | rfl <;> exact ⟨hs'.rel.defers, _, hres, ρ', hnx.agree, hnx.lenH, rfl, hs'.ref, hs'.bnd⟩
    split at h
    · rename_i st1 he
      split at h
      · rename_i l hl
        exact fin .normal st1 l (.inl rfl) he hl h
      · cases h
    · rename_i st1 he
      split at h
      · rename_i l hl
        exact fin .ret st1 l (.inr rfl) he hl h
      · cases h
    · cases h
  · cases h
end Go.Proofs.YtkiaodihfofbnaaGreatDoor.X
namespace Go.Proofs.YtkiaodihfofbnaaGreatDoor.X
open Go Go.RowKit

structure Ent where
  f : FuncId
  s : List AV → View → Nat → Option Out

def EntOk (P : Program) (e : Ent) : Prop :=
  ∀ args V kn o, e.s args V kn = some o → Met o.ob → ∀ w0 ρ w H, Ref w0 ρ w H → (∀ k b, V k = some b → H k = some b) → H kn = none → (∀ k b, H k = some b → kn ∉ idsA b.cs) → kn ∉ idsL args →
    Does P e.f (argsV ρ args) w fun v w' => ∃ ρ', (∀ k, k ≠ kn → ρ' k = ρ k) ∧ v = o.r.val ρ' ∧ Ref w0 ρ' w' (updH H o.eff)

def spOf : List Ent → Sp
  | [], _, _, _, _ => none
  | e :: l, f, args, V, kn => match f == e.f with
    | true => match e.s args V kn with
      | some o => some o
      | none => spOf l f args V kn
    | false => spOf l f args V kn

theorem spOk_nil {P : Program} : SpOk P (spOf []) := fun f args V kn o h => by cases h
theorem spOk_cons {P : Program} {e : Ent} {l : List Ent} (he : EntOk P e) (hl : SpOk P (spOf l)) : SpOk P (spOf (e :: l)) := fun f args V kn o h hob => by
  rw [spOf] at h
  split at h
  · rename_i hf
    have hf' : f = e.f := beq_iff_eq.1 hf
    subst hf'
    split at h
    · rename_i o' hs
      obtain rfl := Option.some.inj h
      exact he args V kn o' hs hob
    · exact hl _ args V kn o h hob
  · exact hl f args V kn o h hob

theorem Does.mono {P : Program} {f : FuncId} {args : Array Value} {w : World} {K K' : Value → World → Prop} (h : Does P f args w K) (hk : ∀ v w', K v w' → K' v w') : Does P f args w K' := by
  rcases h with ⟨h1, h2⟩ | ⟨v, w', h1, h2⟩
  · exact .inl ⟨h1, h2.mono fun e w' ⟨v, e1, e2⟩ => ⟨v, e1, hk v w' e2⟩⟩
  · exact .inr ⟨v, w', h1, hk v w' h2⟩

/-- The function has a body that a call enters. -/
theorem enters_of {P : Program} {f : FuncId} {fn : Func} (hf : P.funcs[f]? = some fn) (hn : (fn.name == "runtime.NumGoroutine") = false) (hb : fn.body.isSome = true) (args : Array Value) (w : World) : (callFunc f args).run P w = .ok (.enter f args) w := by
  unfold callFunc
  refine (run_ok (s := program) (a := P) (w' := w) rfl).trans ?_
  rw [hf]
  simp only
  rw [if_neg (by rw [hn]; decide), if_neg (by rw [Option.isNone_iff_eq_none]; intro h; rw [h] at hb; cases hb)]
  rfl

/-- What a function is reckoned to answer, and what must hold for that. -/
def ansOf (x : Option (AV × St)) : Option (AV × List Prop) := match x with
  | some (r, st) => some (r, st.ob)
  | none => none

/-- What one's own function needs: it reads blocks that it does not write. -/
def justRead (H : List (Option Blk)) : Bool := H.all fun x => match x with
  | some b => !b.own
  | none => true
def noIds (x : AV) : Bool := x.ids.isEmpty

structure Fun (P : Program) (f : FuncId) (fn : Func) : Prop where
  at_ : P.funcs[f]? = some fn
  name : (fn.name == "runtime.NumGoroutine") = false
  body : fn.body.isSome = true

theorem read_run {P : Program} {sp : Sp} (hm : P.follows .mixedOrders = true) (hsp : SpOk P sp) {f : FuncId} {fn : Func} (hf : Fun P f fn) (sy : Md) (n : Nat) {args : List AV} {H : List (Option Blk)} {r : AV} {ob : List Prop}
    (h : ansOf (runFn P sp sy n fn args H) = some (r, ob)) (hob : Met ob) (hb : (bndB (startT fn args) H && justRead H && noIds r) = true) {w : World} {ρ : Rho} (hh : ∀ k b, lk H k = some b → Holds ρ w k b ∧ (ρ k).1 < w.heap.size) :
    Does P f (argsV ρ args) w fun v w' => v = r.val ρ ∧ Below w.heap.size w w' := by
  rw [Bool.and_eq_true, Bool.and_eq_true] at hb
  obtain ⟨⟨hb1, hb2⟩, hb3⟩ := hb
  have hown : ∀ k b, lk H k = some b → b.own = false := fun k b hk => by
    have := List.all_eq_true.1 hb2 _ (lk_mem hk)
    simp only [Bool.not_eq_true'] at this
    exact this
  have hR : Ref w ρ w (lk H) := ⟨Below.refl _ _, fun k b hk => (hh k b hk).1, fun k b hk ho => (by rw [hown k b hk] at ho; cases ho), fun k b hk _ => (hh k b hk).2, fun k k' b b' hk _ ho => (by rw [hown k b hk] at ho; cases ho), KeepsOthers.refl w, fun _ _ _ _ h => h, fun _ h => h.elim⟩
  unfold ansOf at h
  split at h
  · rename_i r' st hrun
    obtain ⟨rfl, rfl⟩ := Prod.mk.inj (Option.some.inj h)
    refine .inl ⟨enters_of hf.at_ hf.name hf.body _ _, (runFn_sound hm hsp hf.at_ hrun hob (bndB_spec hb1) hR).mono ?_⟩
    rintro e w' ⟨ρ', _, _, rfl, hR', _⟩
    refine ⟨_, rfl, ?_, hR'.below⟩
    refine AV.val_congr fun k hk => ?_
    have : r'.ids = [] := by simpa [noIds] using hb3
    rw [this] at hk; cases hk
  · cases h

/-! ### Other numbers for the same blocks -/
def At.ren (σ : Nat → Nat) : At → At
  | .p k off => .p (σ k) off
  | .s k len cap => .s (σ k) len cap
  | .c fn first cap => .c fn first (cap.map σ)
  | x => x
def G.ren (σ : Nat → Nat) : G → G
  | .a x => .a (x.ren σ)
  | .agg l => .agg (l.map (At.ren σ))
def AV.ren (σ : Nat → Nat) : AV → AV
  | .g x => .g (x.ren σ)
  | .tup l => .tup (l.map (G.ren σ))
theorem At.val_ren (ρ : Rho) (σ : Nat → Nat) (x : At) : (x.ren σ).val ρ = x.val (fun k => ρ (σ k)) := by
  cases x with
  | c fn first cap => simp only [At.ren, At.val, List.map_map]; rfl
  | _ => rfl
theorem At.cells_ren (ρ : Rho) (σ : Nat → Nat) (x : At) : (x.ren σ).cells ρ = x.cells (fun k => ρ (σ k)) := by
  cases x with
  | c fn first cap => have := At.val_ren ρ σ (.c fn first cap); simp only [At.ren, At.cells] at this ⊢; rw [this]
  | _ => rfl
theorem flat_ren (ρ : Rho) (σ : Nat → Nat) : ∀ l : List At, flat ρ (l.map (At.ren σ)) = flat (fun k => ρ (σ k)) l
  | [] => rfl
  | x :: l => by
    have := flat_ren ρ σ l
    unfold flat at this ⊢
    rw [List.map_cons, List.flatMap_cons, List.flatMap_cons, At.cells_ren, this]
theorem G.val_ren (ρ : Rho) (σ : Nat → Nat) (x : G) : (x.ren σ).val ρ = x.val (fun k => ρ (σ k)) := by
  cases x with
  | a x => exact At.val_ren ρ σ x
  | agg l => simp only [G.ren, G.val, flat_ren]
theorem AV.val_ren (ρ : Rho) (σ : Nat → Nat) (x : AV) : (x.ren σ).val ρ = x.val (fun k => ρ (σ k)) := by
  cases x with
  | g x => exact G.val_ren ρ σ x
  | tup l =>
    simp only [AV.ren, AV.val, List.map_map]
    congr 2
    exact List.map_congr_left fun y _ => G.val_ren ρ σ y
theorem argsV_ren (ρ : Rho) (σ : Nat → Nat) (l : List AV) : argsV ρ (l.map (AV.ren σ)) = argsV (fun k => ρ (σ k)) l := by
  unfold argsV
  rw [List.map_map]
  congr 1
  exact List.map_congr_left fun y _ => AV.val_ren ρ σ y

/-- A function that only reads blocks of whoever calls it. -/
theorem caps_run {P : Program} {sp : Sp} (hm : P.follows .mixedOrders = true) (hsp : SpOk P sp) {f : FuncId} {fn : Func} (hf : Fun P f fn) (sy : Md) (n : Nat) {args0 : List AV} {H0 : List (Option Blk)} {r : AV} {ob : List Prop}
    (h : ansOf (runFn P sp sy n fn args0 H0) = some (r, ob)) (hob : Met ob) (hb : (bndB (startT fn args0) H0 && justRead H0 && noIds r) = true) (σ : Nat → Nat) {w0 : Base} {w : World} {ρ : Rho} {H : View} (hR : Ref w0 ρ w H)
    (hH : ∀ i b0, lk H0 i = some b0 → ∃ b, H (σ i) = some b ∧ b.cs = b0.cs.map (At.ren σ) ∧ b.t = b0.t ∧ b.opn = b0.opn) :
    Does P f (argsV ρ (args0.map (AV.ren σ))) w fun v w' => v = r.val ρ ∧ Below w.heap.size w w' := by
  rw [argsV_ren]
  have hb' := hb
  rw [Bool.and_eq_true, Bool.and_eq_true] at hb'
  have hr : r.ids = [] := by simpa [noIds] using hb'.2
  refine (read_run hm hsp hf sy n h hob hb (ρ := fun k => ρ (σ k)) fun i b0 hi => ?_).mono fun v w' ⟨h1, h2⟩ => ⟨h1.trans (AV.val_congr fun k hk => by rw [hr] at hk; cases hk), h2⟩
  obtain ⟨b, h1, h2, h3, h4⟩ := hH i b0 hi
  obtain ⟨rest, hrest, hh⟩ := hR.holds _ _ h1
  refine ⟨⟨rest, fun ho => hrest (h4.trans ho), ?_⟩, hR.lt h1⟩
  show w.heap[(ρ (σ i)).1]? = _
  rw [hh, h2, h3, flat_ren]

/-- A function of values alone. -/
def Plain (P : Program) (f : FuncId) (args : List AV) (r : AV) : Prop := ∀ (w : World) (ρ : Rho), Does P f (argsV ρ args) w fun v w' => v = r.val ρ ∧ Below w.heap.size w w'

theorem plain_run {P : Program} {sp : Sp} (hm : P.follows .mixedOrders = true) (hsp : SpOk P sp) {f : FuncId} {fn : Func} (hf : Fun P f fn) (sy : Md) (n : Nat) {args : List AV} {r : AV} {ob : List Prop}
    (h : ansOf (runFn P sp sy n fn args []) = some (r, ob)) (hob : Met ob) (hb : (bndB (startT fn args) [] && noIds r) = true) : Plain P f args r := by
  rw [Bool.and_eq_true] at hb
  exact fun w ρ => read_run hm hsp hf sy n h hob (by rw [hb.1, hb.2]; rfl) (fun k b hk => by cases hk)

theorem Plain.turn {P : Program} {f : FuncId} {args : List AV} {r r' : AV} (h : Plain P f args r) (hr : ∀ ρ, r.val ρ = r'.val ρ) : Plain P f args r' := fun w ρ => (h w ρ).mono fun _ _ ⟨h1, h2⟩ => ⟨h1.trans (hr ρ), h2⟩

/-- Below-kept worlds keep what is one's own. -/
theorem does_ref {P : Program} {f : FuncId} {args : Array Value} {w0 : Base} {w : World} {ρ : Rho} {H : View} {r : AV} {kn : Nat} (hR : Ref w0 ρ w H) (h : Does P f args w fun v w' => v = r.val ρ ∧ Below w.heap.size w w') :
    Does P f args w fun v w' => ∃ ρ', (∀ k, k ≠ kn → ρ' k = ρ k) ∧ v = r.val ρ' ∧ Ref w0 ρ' w' (updH H []) :=
  h.mono fun _ _ ⟨h1, h2⟩ => ⟨ρ, fun _ _ => rfl, h1, by rw [updH_nil]; exact hR.later h2⟩

/-! ### Forms of arguments -/
structure Pat (α : Type) where
  dec : AV → Option α
  enc : α → AV
  ok : ∀ v a ρ, dec v = some a → v.val ρ = (enc a).val ρ

abbrev E1 (x : El) : AV := .g (.agg [.e x])
abbrev Pt := El × El × El
abbrev P1 (p : Pt) : AV := .g (.agg [.e p.1, .e p.2.1, .e p.2.2])
abbrev E2 (p : El × El) : AV := .g (.agg [.e p.1, .e p.2])
abbrev I1 (k : IntKind) (z : Int) : AV := .g (.a (.v (.int k z)))
abbrev B1 (b : Bool) : AV := .g (.a (.v (.bool b)))

def decE : AV → Option El
  | .g (.agg [.e x]) => some x
  | _ => none
def decP : AV → Option Pt
  | .g (.agg [.e x, .e y, .e z]) => some (x, y, z)
  | _ => none
def decE2 : AV → Option (El × El)
  | .g (.agg [.e x, .e y]) => some (x, y)
  | _ => none
def decI : AV → Option Int
  | .g (.a (.v (.int .i64 z))) => some z
  | _ => none
def decD : AV → Option Nat
  | .g (.agg [.d n]) => some n
  | _ => none
/-- A word that is not below nought. -/
def decU : AV → Option Nat
  | .g (.a (.v (.int .u64 (.ofNat n)))) => some n
  | _ => none
def pE : Pat El := ⟨decE, E1, fun v a _ h => by unfold decE at h; split at h <;> first | (rw [← Option.some.inj h]) | cases h⟩
def pP : Pat Pt := ⟨decP, P1, fun v a _ h => by unfold decP at h; split at h <;> first | (rw [← Option.some.inj h]) | cases h⟩
def pE2 : Pat (El × El) := ⟨decE2, E2, fun v a _ h => by unfold decE2 at h; split at h <;> first | (rw [← Option.some.inj h]) | cases h⟩
def pI : Pat Int := ⟨decI, I1 .i64, fun v a _ h => by unfold decI at h; split at h <;> first | (rw [← Option.some.inj h]) | cases h⟩
def pD : Pat Nat := ⟨decD, fun n => .g (.agg [.d n]), fun v a _ h => by unfold decD at h; split at h <;> first | (rw [← Option.some.inj h]) | cases h⟩
def pU : Pat Nat := ⟨decU, fun n => I1 .u64 (.ofNat n), fun v a _ h => by unfold decU at h; split at h <;> first | (rw [← Option.some.inj h]) | cases h⟩

def ent0 (f : FuncId) (r : AV) : Ent := ⟨f, fun args _ _ => match args with
  | [] => some ⟨r, [], []⟩
  | _ => none⟩
def ent1 {α : Type} (f : FuncId) (p : Pat α) (g : α → AV) : Ent := ⟨f, fun args _ _ => match args with
  | [x] => match p.dec x with
    | some a => some ⟨g a, [], []⟩
    | none => none
  | _ => none⟩
def ent2 {α β : Type} (f : FuncId) (p : Pat α) (q : Pat β) (g : α → β → AV) : Ent := ⟨f, fun args _ _ => match args with
  | [x, y] => match p.dec x with
    | some a => match q.dec y with
      | some b => some ⟨g a b, [], []⟩
      | none => none
    | none => none
  | _ => none⟩
def ent3 {α β γ : Type} (f : FuncId) (p : Pat α) (q : Pat β) (r : Pat γ) (g : α → β → γ → AV) : Ent := ⟨f, fun args _ _ => match args with
  | [x, y, z] => match p.dec x with
    | some a => match q.dec y with
      | some b => match r.dec z with
        | some c => some ⟨g a b c, [], []⟩
        | none => none
      | none => none
    | none => none
  | _ => none⟩

theorem ent0_ok {P : Program} {f : FuncId} {r : AV} (h : Plain P f [] r) : EntOk P (ent0 f r) := fun args V kn o ho _ w0 ρ w H hR _ _ _ _ => by
  unfold ent0 at ho
  simp only at ho
  split at ho
  · obtain rfl := Option.some.inj ho
    exact does_ref hR (h w ρ)
  · cases ho
theorem ent1_ok {P : Program} {α : Type} {f : FuncId} {p : Pat α} {g : α → AV} (h : ∀ a, Plain P f [p.enc a] (g a)) : EntOk P (ent1 f p g) := fun args V kn o ho _ w0 ρ w H hR _ _ _ _ => by
  unfold ent1 at ho
  simp only at ho
  split at ho
  · split at ho
    · rename_i x a ha
      obtain rfl := Option.some.inj ho
      refine does_ref hR ?_
      have := h a w ρ
      simp only [argsV, List.map_cons, List.map_nil, ← p.ok _ _ ρ ha] at this
      exact this
    · cases ho
  · cases ho
theorem ent2_ok {P : Program} {α β : Type} {f : FuncId} {p : Pat α} {q : Pat β} {g : α → β → AV} (h : ∀ a b, Plain P f [p.enc a, q.enc b] (g a b)) : EntOk P (ent2 f p q g) := fun args V kn o ho _ w0 ρ w H hR _ _ _ _ => by
  unfold ent2 at ho
  simp only at ho
  split at ho
  · split at ho
    · rename_i a ha
      split at ho
      · rename_i b hb
        obtain rfl := Option.some.inj ho
        refine does_ref hR ?_
        have := h a b w ρ
        simp only [argsV, List.map_cons, List.map_nil, ← p.ok _ _ ρ ha, ← q.ok _ _ ρ hb] at this
        exact this
      · cases ho
    · cases ho
  · cases ho
theorem ent3_ok {P : Program} {α β γ : Type} {f : FuncId} {p : Pat α} {q : Pat β} {r : Pat γ} {g : α → β → γ → AV} (h : ∀ a b c, Plain P f [p.enc a, q.enc b, r.enc c] (g a b c)) : EntOk P (ent3 f p q r g) := fun args V kn o ho _ w0 ρ w H hR _ _ _ _ => by
  unfold ent3 at ho
  simp only at ho
  split at ho
  · split at ho
    · rename_i a ha
      split at ho
      · rename_i b hb
        split at ho
        · rename_i c hc
          obtain rfl := Option.some.inj ho
          refine does_ref hR ?_
          have := h a b c w ρ
          simp only [argsV, List.map_cons, List.map_nil, ← p.ok _ _ ρ ha, ← q.ok _ _ ρ hb, ← r.ok _ _ ρ hc] at this
          exact this
        · cases ho
      · cases ho
    · cases ho
  · cases ho

/-- Eight words. -/
structure L8 where
  a0 : Int
  a1 : Int
  a2 : Int
  a3 : Int
  a4 : Int
  a5 : Int
  a6 : Int
  a7 : Int
abbrev W8 (z : L8) : AV := .g (.agg [.v (.int .u64 z.a0), .v (.int .u64 z.a1), .v (.int .u64 z.a2), .v (.int .u64 z.a3), .v (.int .u64 z.a4), .v (.int .u64 z.a5), .v (.int .u64 z.a6), .v (.int .u64 z.a7)])
def decL : AV → Option L8
  | .g (.agg l) => match expand l with
    | [.v (.int .u64 a), .v (.int .u64 b), .v (.int .u64 c), .v (.int .u64 d), .v (.int .u64 e), .v (.int .u64 f), .v (.int .u64 g), .v (.int .u64 h)] => some ⟨a, b, c, d, e, f, g, h⟩
    | _ => none
  | _ => none
def pL : Pat L8 := ⟨decL, W8, fun v a ρ h => by
  unfold decL at h
  split at h
  · rename_i l
    split at h
    · rename_i e
      rw [← Option.some.inj h]
      simp only [AV.val, G.val]
      rw [← flat_expand, e]
    · cases h
  · cases h⟩
def El.w (x : El) : L8 := ⟨x.a0, x.a1, x.a2, x.a3, x.a4, x.a5, x.a6, x.a7⟩
end Go.Proofs.YtkiaodihfofbnaaGreatDoor.X
