/- X448 of a secret number and a point's u is the u of that number times the point (the law TopCurves): part 12 of 22 of its proof: writing calls, clamp, the ladder, X448, the suite's call. No condition. -/
import Derived.Test.YtkiaodihfofbnaaGreatDoorM10
set_option linter.unusedVariables false
set_option linter.unusedSimpArgs false
namespace Go.Proofs.YtkiaodihfofbnaaGreatDoor.X
open Go Go.RowKit
set_option maxRecDepth 100000

def Blk.ren (σ : Nat → Nat) (b : Blk) : Blk := ⟨b.cs.map (At.ren σ), b.t, b.opn, b.own⟩
/-- What a function answers, what must hold for that, and what it leaves in the blocks that it was shown. -/
def ansW (N : Nat) (x : Option (AV × St)) : Option (AV × List Prop × List (Option Blk)) := match x with
  | some (r, st) => some (r, st.ob, st.H.take N)
  | none => none
def okB (N : Nat) (b0 b1 : Option Blk) : Bool := match b0, b1 with
  | some b0, some b1 => !b0.own || (b1.own && ltAll N (idsA b1.cs))
  | some b0, none => !b0.own
  | none, _ => true
def okW (H0 : List (Option Blk)) (r : AV) (H1 : List (Option Blk)) : Bool := ltAll H0.length r.ids && (List.range H0.length).all fun i => okB H0.length (lk H0 i) (lk H1 i)
def effW (σ : Nat → Nat) (H0 H1 : List (Option Blk)) : List (Nat × Blk) := (List.range H0.length).filterMap fun i => match lk H0 i, lk H1 i with
  | some b0, some b1 => if b0.own then some (σ i, b1.ren σ) else none
  | _, _ => none
theorem lookup_mem {eff : List (Nat × Blk)} {k : Nat} {b : Blk} (h : eff.lookup k = some b) : (k, b) ∈ eff := by
  induction eff with
  | nil => cases h
  | cons x l ih =>
    obtain ⟨k', b'⟩ := x
    rw [List.lookup_cons] at h
    cases e : (k == k') with
    | true => rw [e] at h; obtain rfl := Option.some.inj h; rw [beq_iff_eq.1 e]; exact List.mem_cons_self
    | false => rw [e] at h; exact List.mem_cons_of_mem _ (ih h)
theorem lookup_none {eff : List (Nat × Blk)} {k : Nat} (h : eff.lookup k = none) : ∀ b, (k, b) ∉ eff := by
  intro b hm
  induction eff with
  | nil => cases hm
  | cons x l ih =>
    obtain ⟨k', b'⟩ := x
    rw [List.lookup_cons] at h
    cases e : (k == k') with
    | true => rw [e] at h; cases h
    | false =>
      rw [e] at h
      rcases List.mem_cons.1 hm with he | hm
      · cases he; simp at e
      · exact ih h hm
theorem effW_mem {σ : Nat → Nat} {H0 H1 : List (Option Blk)} {k : Nat} {b : Blk} (h : (k, b) ∈ effW σ H0 H1) : ∃ i b0 b1, lk H0 i = some b0 ∧ b0.own = true ∧ lk H1 i = some b1 ∧ k = σ i ∧ b = b1.ren σ := by
  unfold effW at h
  obtain ⟨i, hi, he⟩ := List.mem_filterMap.1 h
  split at he
  · rename_i b0 b1 h0 h1
    split at he
    · rename_i ho
      obtain ⟨rfl, rfl⟩ := Prod.mk.inj (Option.some.inj he)
      exact ⟨i, b0, b1, h0, ho, h1, rfl, rfl⟩
    · cases he
  · cases he
theorem mem_effW {σ : Nat → Nat} {H0 H1 : List (Option Blk)} {i : Nat} {b0 b1 : Blk} (h0 : lk H0 i = some b0) (ho : b0.own = true) (h1 : lk H1 i = some b1) : (σ i, b1.ren σ) ∈ effW σ H0 H1 := by
  refine List.mem_filterMap.2 ⟨i, List.mem_range.2 (lk_lt h0), ?_⟩
  simp only [h0, h1, ho, if_true]
theorem okW_spec {H0 : List (Option Blk)} {r : AV} {H1 : List (Option Blk)} (h : okW H0 r H1 = true) : (∀ k ∈ r.ids, k < H0.length) ∧ ∀ i b0, lk H0 i = some b0 → b0.own = true → ∃ b1, lk H1 i = some b1 ∧ b1.own = true ∧ ∀ k ∈ idsA b1.cs, k < H0.length := by
  unfold okW at h
  rw [Bool.and_eq_true] at h
  refine ⟨ltAll_spec h.1, fun i b0 h0 ho => ?_⟩
  have := List.all_eq_true.1 h.2 i (List.mem_range.2 (lk_lt h0))
  rw [h0] at this
  unfold okB at this
  split at this
  · rename_i b0' b1 e0 e1
    obtain rfl := Option.some.inj e0
    rw [ho] at this
    simp only [Bool.not_true, Bool.false_or, Bool.and_eq_true] at this
    exact ⟨b1, e1, this.1, ltAll_spec this.2⟩
  · rename_i b0' e0 e1
    obtain rfl := Option.some.inj e0
    rw [ho] at this; cases this
  · rename_i e0; cases e0

theorem write_calls {P : Program} {sp : Sp} (hm : P.follows .mixedOrders = true) (hsp : SpOk P sp) {f : FuncId} {fn : Func} (hf : Fun P f fn) (sy : Md) (n : Nat) {args0 : List AV} {H0 : List (Option Blk)} {r : AV} {ob : List Prop} {H1 : List (Option Blk)}
    (h : ansW H0.length (runFn P sp sy n fn args0 H0) = some (r, ob, H1)) (hob : Met ob) (hb : (bndB (startT fn args0) H0 && okW H0 r H1) = true) (σ : Nat → Nat) {w0 : Base} {w : World} {ρ : Rho} {H : View} (hR : Ref w0 ρ w H)
    (hH : ∀ i b0, lk H0 i = some b0 → ∃ b, H (σ i) = some b ∧ b.cs = b0.cs.map (At.ren σ) ∧ b.t = b0.t ∧ b.opn = b0.opn ∧ b.own = b0.own) (hσ : ∀ i j b b', lk H0 i = some b → lk H0 j = some b' → b.own = true → b'.own = true → σ i = σ j → i = j) :
    Calls P f (argsV ρ (args0.map (AV.ren σ))) w fun e w' => e = .returned ((r.ren σ).val ρ) ∧ Ref w0 ρ w' (updH H (effW σ H0 H1)) := by
  rw [argsV_ren]
  rw [Bool.and_eq_true] at hb
  obtain ⟨hb1, hb2⟩ := hb
  obtain ⟨hr, hok⟩ := okW_spec hb2
  let F' : Nat → Prop := fun g => w0.F g ∨ ∃ k b, H k = some b ∧ b.own = true ∧ (ρ k).1 = g ∧ ∀ i b0, lk H0 i = some b0 → b0.own = true → σ i ≠ k
  have hF' : ∀ g, F' g → g < w.heap.size := fun g hg => by
    rcases hg with hg | ⟨k, b, hk, _, rfl, _⟩
    · exact Nat.lt_of_lt_of_le (w0.lt g hg) hR.below.size
    · exact hR.lt hk
  let w1 : Base := ⟨w0.n, w, hR.below_le, F', hF'⟩
  have hR1 : Ref w1 (fun k => ρ (σ k)) w (lk H0) := by
    refine ⟨Below.refl _ _, fun i b0 hi => ?_, fun i b0 hi ho => ?_, fun i b0 hi ho => ?_, fun i j b b' hi hj ho ho' he => ?_, KeepsOthers.refl _, fun i b0 hi ho hF => ?_, fun _ _ => rfl⟩
    · obtain ⟨b, h1, h2, h3, h4, h5⟩ := hH i b0 hi
      obtain ⟨rest, hrest, hh⟩ := hR.holds _ _ h1
      refine ⟨rest, fun ho => hrest (h4.trans ho), ?_⟩
      show w.heap[(ρ (σ i)).1]? = _
      rw [hh, h2, h3, flat_ren]
    · obtain ⟨b, h1, h2, h3, h4, h5⟩ := hH i b0 hi
      exact hR.own _ _ h1 (h5.trans ho)
    · obtain ⟨b, h1, h2, h3, h4, h5⟩ := hH i b0 hi
      exact hR.ext _ _ h1 (h5.trans ho)
    · obtain ⟨c, h1, _, _, _, h5⟩ := hH i b hi
      obtain ⟨c', h1', _, _, _, h5'⟩ := hH j b' hj
      exact hσ i j b b' hi hj ho ho' (hR.inj _ _ _ _ h1 h1' (h5.trans ho) (h5'.trans ho') he)
    · obtain ⟨b, h1, h2, h3, h4, h5⟩ := hH i b0 hi
      rcases hF with hF | ⟨k, b', hk, hk', he, hne⟩
      · exact hR.free _ _ h1 (h5.trans ho) hF
      · exact hne i b0 hi ho (hR.inj _ _ _ _ h1 hk (h5.trans ho) hk' he.symm)
  unfold ansW at h
  split at h
  · rename_i r' st hrun
    obtain ⟨rfl, e2⟩ := Prod.mk.inj (Option.some.inj h)
    obtain ⟨rfl, rfl⟩ := Prod.mk.inj e2
    refine (runFn_sound hm hsp hf.at_ hrun hob (bndB_spec hb1) hR1).mono ?_
    rintro e w' ⟨ρ', hag, hlen, rfl, hR', _⟩
    refine ⟨?_, ?_⟩
    · rw [AV.val_ren]
      exact congrArg Ending.returned <| AV.val_congr fun k hk => hag k (hr k hk)
    · have key : ∀ k b', updH H (effW σ H0 (st.H.take H0.length)) k = some b' → (∃ i b0 b1 b, lk H0 i = some b0 ∧ b0.own = true ∧ lk st.H i = some b1 ∧ b1.own = true ∧ (∀ j ∈ idsA b1.cs, j < H0.length) ∧ k = σ i ∧ b' = b1.ren σ ∧ H k = some b ∧ b.own = true) ∨ (H k = some b' ∧ ∀ i b0, lk H0 i = some b0 → b0.own = true → σ i ≠ k) := fun k b' hk => by
        unfold updH at hk
        cases e : (effW σ H0 (st.H.take H0.length)).lookup k with
        | some b2 =>
          rw [e] at hk
          obtain rfl := Option.some.inj hk
          obtain ⟨i, b0, b1, h0, ho, h1, rfl, rfl⟩ := effW_mem (lookup_mem e)
          obtain ⟨b1', h1', ho1, hids⟩ := hok i b0 h0 ho
          rw [h1] at h1'
          obtain rfl := Option.some.inj h1'
          obtain ⟨b, g1, _, _, _, g5⟩ := hH i b0 h0
          exact .inl ⟨i, b0, b1, b, h0, ho, lk_take h1, ho1, hids, rfl, rfl, g1, g5.trans ho⟩
        | none =>
          rw [e] at hk
          refine .inr ⟨hk, fun i b0 h0 ho he => ?_⟩
          obtain ⟨b1, h1, _, _⟩ := hok i b0 h0 ho
          subst he
          exact lookup_none e _ (mem_effW h0 ho h1)
      refine ⟨hR.below.trans hR'.below, fun k b' hk => ?_, fun k b' hk ho => ?_, fun k b' hk ho => ?_, fun k k' b b' hk hk' ho ho' he => ?_, hR.others.trans hR'.others, fun k b' hk ho => ?_, fun g hg => (hR'.keep g (.inl hg)).trans (hR.keep g hg)⟩
      · rcases key k b' hk with ⟨i, b0, b1, b, h0, ho, h1, ho1, hids, rfl, rfl, hb, hbo⟩ | ⟨hk, hne⟩
        · obtain ⟨rest, hrest, hh⟩ := hR'.holds i b1 h1
          refine ⟨rest, hrest, ?_⟩
          have e1 : (ρ (σ i)).1 = (ρ' i).1 := by rw [hag i (lk_lt h0)]
          rw [e1, hh]
          show _ = some (Obj.cells (flat ρ (b1.cs.map (At.ren σ)) ++ rest).toArray b1.t (0, 0))
          rw [flat_ren, flat_congr (ρ := ρ') (ρ' := fun k => ρ (σ k)) (l := b1.cs) fun j hj => (hag j (hids j hj)).symm]
        · obtain ⟨rest, hrest, hh⟩ := hR.holds k b' hk
          refine ⟨rest, hrest, ?_⟩
          rw [← hh]
          cases hbo : b'.own with
          | true => exact hR'.keep _ (.inr ⟨k, b', hk, hbo, rfl, hne⟩)
          | false => exact hR'.below.block _ (hR.ext k b' hk hbo)
      · rcases key k b' hk with ⟨i, b0, b1, b, h0, ho, h1, ho1, hids, rfl, rfl, hb, hbo⟩ | ⟨hk, hne⟩
        · exact hR.own _ _ hb hbo
        · exact hR.own _ _ hk ho
      · rcases key k b' hk with ⟨i, b0, b1, b, h0, _, h1, ho1, hids, rfl, rfl, hb, hbo⟩ | ⟨hk, hne⟩
        · rw [show (b1.ren σ).own = b1.own from rfl, ho1] at ho; cases ho
        · exact hR.ext _ _ hk ho
      · have own : ∀ k b, updH H (effW σ H0 (st.H.take H0.length)) k = some b → b.own = true → ∃ c, H k = some c ∧ c.own = true := fun k b' hk ho => by
          rcases key k b' hk with ⟨i, b0, b1, b, h0, _, h1, ho1, hids, rfl, rfl, hb, hbo⟩ | ⟨hk, hne⟩
          · exact ⟨b, hb, hbo⟩
          · exact ⟨b', hk, ho⟩
        obtain ⟨c, c1, c2⟩ := own k b hk ho
        obtain ⟨c', c1', c2'⟩ := own k' b' hk' ho'
        exact hR.inj _ _ _ _ c1 c1' c2 c2' he
      · rcases key k b' hk with ⟨i, b0, b1, b, h0, _, h1, ho1, hids, rfl, rfl, hb, hbo⟩ | ⟨hk, hne⟩
        · exact hR.free _ _ hb hbo
        · exact hR.free _ _ hk ho
  · cases h
theorem write_run {P : Program} {sp : Sp} (hm : P.follows .mixedOrders = true) (hsp : SpOk P sp) {f : FuncId} {fn : Func} (hf : Fun P f fn) (sy : Md) (n : Nat) {args0 : List AV} {H0 : List (Option Blk)} {r : AV} {ob : List Prop} {H1 : List (Option Blk)}
    (h : ansW H0.length (runFn P sp sy n fn args0 H0) = some (r, ob, H1)) (hob : Met ob) (hb : (bndB (startT fn args0) H0 && okW H0 r H1) = true) (σ : Nat → Nat) {w0 : Base} {w : World} {ρ : Rho} {H : View} (hR : Ref w0 ρ w H)
    (hH : ∀ i b0, lk H0 i = some b0 → ∃ b, H (σ i) = some b ∧ b.cs = b0.cs.map (At.ren σ) ∧ b.t = b0.t ∧ b.opn = b0.opn ∧ b.own = b0.own) (hσ : ∀ i j b b', lk H0 i = some b → lk H0 j = some b' → b.own = true → b'.own = true → σ i = σ j → i = j) :
    Does P f (argsV ρ (args0.map (AV.ren σ))) w fun v w' => v = (r.ren σ).val ρ ∧ Ref w0 ρ w' (updH H (effW σ H0 H1)) :=
  .inl ⟨enters_of hf.at_ hf.name hf.body _ _, (write_calls hm hsp hf sy n h hob hb σ hR hH hσ).mono fun _ _ ⟨e1, e2⟩ => ⟨_, e1, rfl, e2⟩⟩
end Go.Proofs.YtkiaodihfofbnaaGreatDoor.X
namespace Go.Proofs.YtkiaodihfofbnaaGreatDoor.X
open Go Go.RowKit
set_option maxRecDepth 100000

/-- What a function answers, what must hold for that, and one block that it leaves. -/
def ansM (j : Nat) (x : Option (AV × St)) : Option (AV × List Prop × Option Blk) := match x with
  | some (r, st) => some (r, st.ob, lk st.H j)
  | none => none
/-- A function that reads what it is handed and makes a block that its answer names. -/
theorem mk_run {P : Program} {sp : Sp} (hm : P.follows .mixedOrders = true) (hsp : SpOk P sp) {f : FuncId} {fn : Func} (hf : Fun P f fn) (sy : Md) (n : Nat) {args0 : List AV} {H0 : List (Option Blk)} {r : AV} {ob : List Prop} (j : Nat) {b : Blk}
    (h : ansM j (runFn P sp sy n fn args0 H0) = some (r, ob, some b)) (hob : Met ob) (hb : (bndB (startT fn args0) H0 && justRead H0 && r.ids.all (· == j) && b.own && (idsA b.cs).isEmpty) = true)
    {w0 : Base} {w : World} {ρ ρc : Rho} {H : View} (hR : Ref w0 ρ w H) {kn : Nat} (hn : H kn = none) (hfx : ∀ k b, H k = some b → kn ∉ idsA b.cs) (hh : ∀ k b, lk H0 k = some b → Holds ρc w k b ∧ (ρc k).1 < w.heap.size) :
    Does P f (argsV ρc args0) w fun v w' => ∃ ρ', (∀ k, k ≠ kn → ρ' k = ρ k) ∧ v = (r.ren fun _ => kn).val ρ' ∧ Ref w0 ρ' w' (updH H [(kn, b)]) := by
  simp only [Bool.and_eq_true] at hb
  obtain ⟨⟨⟨⟨hb1, hb2⟩, hb3⟩, hb4⟩, hb5⟩ := hb
  have hR1 : Ref w ρc w (lk H0) := read_ref hb2 hh
  unfold ansM at h
  split at h
  · rename_i r' st hrun
    obtain ⟨rfl, e2⟩ := Prod.mk.inj (Option.some.inj h)
    obtain ⟨rfl, hj⟩ := Prod.mk.inj e2
    refine .inl ⟨enters_of hf.at_ hf.name hf.body _ _, (runFn_sound hm hsp hf.at_ hrun hob (bndB_spec hb1) hR1).mono ?_⟩
    rintro e w' ⟨ρ', hag, hlen, rfl, hR', _⟩
    obtain ⟨rest, hr, hh'⟩ := hR'.holds j b hj
    refine ⟨_, rfl, put1 ρ kn (ρ' j).1 (ρ' j).2, fun k hk => put1_ne _ hk, ?_, ?_⟩
    · rw [AV.val_ren]
      refine AV.val_congr fun k hk => ?_
      have e1 : k = j := by have := List.all_eq_true.1 hb3 k hk; exact beq_iff_eq.1 this
      rw [put1_self, e1]
    · refine hR.new hn hfx hb4 hR'.below (hR'.own j b hj hb4) ⟨rest, hr, ?_⟩
      have hids : idsA b.cs = [] := by simpa using hb5
      rw [put1_self, hh', flat_congr (ρ := put1 ρ kn (ρ' j).1 (ρ' j).2) (ρ' := ρ') (l := b.cs) (fun k hk => by rw [hids] at hk; cases hk)]
  · cases h

/-! ### Clone -/
def e20 : Ent := ⟨20, fun args V kn => match args with
  | [.g (.a (.s k 56 _))] => match rowV V 56 k with
    | some (l, ob) => some ⟨rowS kn 56, [(kn, ⟨[.r .u8 l], 5, true, true⟩)], ob⟩
    | none => none
  | _ => none⟩
theorem one_holds {w0 : Base} {w : World} {ρ : Rho} {H : View} (hR : Ref w0 ρ w H) {k : Nat} {b : Blk} (hk : H k = some b) {l : List Int} (hl : ∀ ρ, ∃ r, flat ρ b.cs = l.map (Value.int .u8) ++ r) :
    ∀ i b', lk [some (rowBlk l b.t)] i = some b' → Holds (fun _ => ρ k) w i b' ∧ (ρ k).1 < w.heap.size := fun i b' hi => by
  match i, hi with
  | 0, hi => obtain rfl := Option.some.inj hi; exact row_holds hR hk hl (fun _ => ρ k) 0 rfl
theorem e20_ok : EntOk Tryz.prog e20 := fun args V kn o ho hob w0 ρ w H hR hV hn hfx g3 => by
  unfold e20 at ho
  simp only at ho
  split at ho
  · rename_i k cap
    split at ho
    · rename_i l ob hl
      obtain rfl := Option.some.inj ho
      obtain ⟨b, hk, h56, hfl⟩ := rowV_spec hl hob
      have h := clone_calls h56 b.t cap (read_ref (w := w) (ρ := fun _ => ρ k) rfl (one_holds hR (hV _ _ hk) hfl))
      exact does_new fun20 hR hn hfx (b := ⟨[.r .u8 l], 5, true, true⟩) rfl rfl (j := 1) ⟨_, rfl, rfl, rfl, fun h => h, rfl⟩ h
    · cases ho
  · cases ho

/-! ### What turns one byte -/
def orB (a b : Int) : Int := IntKind.u8.wrap ((BitVec.ofInt 8 a ||| BitVec.ofInt 8 b).toNat : Int)
def setB (l : List Int) (i : Nat) (keep set : Int) : List Int := l.set i (orB (anB (l.getD i 0) keep) set)
theorem fun21 : Fun Tryz.prog 21 Tryz.f21 := ⟨Tryz.func21, by kernel_rfl, by kernel_rfl⟩
structure Box21 where
  kr : Nat
  cap : Option Nat
  t0 : TypeId
  o0 : Bool
  l : List Int
  t : TypeId
  o : Bool
def box21 (V : View) (k : Nat) : Option Box21 := match V k with
  | some b => match b.cs, b.own with
    | [.s kr 56 cap], true => match V kr with
      | some b' => match b'.cs, b'.own with
        | [.r .u8 l], true => some ⟨kr, cap, b.t, b.opn, l, b'.t, b'.opn⟩
        | _, _ => none
      | none => none
    | _, _ => none
  | none => none
theorem box21_spec {V : View} {k : Nat} {x : Box21} (h : box21 V k = some x) : V k = some ⟨[.s x.kr 56 x.cap], x.t0, x.o0, true⟩ ∧ V x.kr = some ⟨[.r .u8 x.l], x.t, x.o, true⟩ := by
  unfold box21 at h
  split at h
  · rename_i b hb
    split at h
    · rename_i kr cap hc ho
      split at h
      · rename_i b' hb'
        split at h
        · rename_i l hc' ho'
          obtain rfl := Option.some.inj h
          obtain ⟨cs, t, o, w⟩ := b
          obtain ⟨cs', t', o', w'⟩ := b'
          simp only at hc ho hc' ho'
          subst hc ho hc' ho'
          exact ⟨hb, hb'⟩
        · cases h
      · cases h
    · cases h
  · cases h
def at21 (x y z : Int) : Option (Nat × Int × Int) := match x, y, z with
  | .ofNat 0, .ofNat 252, .ofNat 0 => some (0, 252, 0)
  | .ofNat 55, .ofNat 255, .ofNat 128 => some (55, 255, 128)
  | _, _, _ => none
def e21 : Ent := ⟨21, fun args V _ => match args with
  | [.g (.a (.v (.int .i64 x))), .g (.a (.v (.int .u8 y))), .g (.a (.v (.int .u8 z))), .g (.a (.p k 0))] => match at21 x y z, box21 V k with
    | some (i, keep, set), some b => some ⟨.tup [], [(k, ⟨[.s b.kr 56 b.cap], b.t0, b.o0, true⟩), (b.kr, ⟨[.r .u8 (setB b.l i keep set)], b.t, b.o, true⟩)], [b.l.length = 56]⟩
    | _, _ => none
  | _ => none⟩
theorem run21 (i : Nat) (keep set : Int) (h : (i = 0 ∧ keep = 252 ∧ set = 0) ∨ (i = 55 ∧ keep = 255 ∧ set = 128)) (cap : Option Nat) (t0 : TypeId) (o0 : Bool) (l : List Int) (t : TypeId) (o : Bool) :
    ansW 2 (runFn Tryz.prog (spOf []) false 50 Tryz.f21 [I1 .i64 i, I1 .u8 keep, I1 .u8 set, ptr 0] [some ⟨[.s 1 56 cap], t0, o0, true⟩, some ⟨[.r .u8 l], t, o, true⟩]) =
      some (.tup [], [i * 1 < l.length, i * 1 < l.length], [some ⟨[.s 1 56 cap], t0, o0, true⟩, some ⟨[.r .u8 (setB l i keep set)], t, o, true⟩]) := by
  rcases h with ⟨rfl, rfl, rfl⟩ | ⟨rfl, rfl, rfl⟩ <;> (show ansW _ _ = some _; kernel_rfl)
theorem at21_spec {x y z : Int} {i : Nat} {keep set : Int} (h : at21 x y z = some (i, keep, set)) : x = i ∧ y = keep ∧ z = set ∧ ((i = 0 ∧ keep = 252 ∧ set = 0) ∨ (i = 55 ∧ keep = 255 ∧ set = 128)) := by
  unfold at21 at h
  split at h
  · obtain ⟨rfl, e⟩ := Prod.mk.inj (Option.some.inj h)
    obtain ⟨rfl, rfl⟩ := Prod.mk.inj e
    exact ⟨rfl, rfl, rfl, .inl ⟨rfl, rfl, rfl⟩⟩
  · obtain ⟨rfl, e⟩ := Prod.mk.inj (Option.some.inj h)
    obtain ⟨rfl, rfl⟩ := Prod.mk.inj e
    exact ⟨rfl, rfl, rfl, .inr ⟨rfl, rfl, rfl⟩⟩
  · cases h
theorem e21_ok : EntOk Tryz.prog e21 := fun args V kn o ho hob w0 ρ w H hR hV hn hfx g3 => by
  unfold e21 at ho
  simp only at ho
  split at ho
  · rename_i x y z k
    split at ho
    · rename_i i keep set b hat hbx
      obtain rfl := Option.some.inj ho
      have h56 : b.l.length = 56 := hob.one
      obtain ⟨rfl, rfl, rfl, hi⟩ := at21_spec hat
      obtain ⟨h1, h2⟩ := box21_spec hbx
      have hne : k ≠ b.kr := fun e => by
        rw [← e, h1] at h2
        cases h2
      have hrun := run21 i y z hi b.cap b.t0 b.o0 b.l b.t b.o
      have hlt : i * 1 < b.l.length := by rcases hi with ⟨rfl, _⟩ | ⟨rfl, _⟩ <;> omega
      have h := write_run (args0 := [I1 .i64 i, I1 .u8 y, I1 .u8 z, ptr 0]) (H0 := [some ⟨[.s 1 56 b.cap], b.t0, b.o0, true⟩, some ⟨[.r .u8 b.l], b.t, b.o, true⟩]) hm spOk_nil fun21 false 50 hrun (fun p hp => by
        simp only [List.mem_cons, List.not_mem_nil, or_false] at hp
        rcases hp with rfl | rfl <;> exact hlt) (by kernel_rfl) (sel2 k b.kr) hR (fun j b0 hj => by
          match j, hj with
          | 0, hj => obtain rfl := Option.some.inj hj; exact ⟨_, hV _ _ h1, rfl, rfl, rfl, rfl⟩
          | 1, hj => obtain rfl := Option.some.inj hj; exact ⟨_, hV _ _ h2, rfl, rfl, rfl, rfl⟩) (fun j j' b1 b2 hj hj' _ _ he => by
          match j, j', hj, hj' with
          | 0, 0, _, _ => rfl
          | 1, 1, _, _ => rfl
          | 0, 1, _, _ => exact absurd he hne
          | 1, 0, _, _ => exact absurd he.symm hne)
      exact h.mono fun v w' ⟨e1, e2⟩ => ⟨ρ, fun _ _ => rfl, e1, e2⟩
    · cases ho
  · cases ho

/-! ### Clamp -/
def clampL (l : List Int) : List Int := setB (setB l 0 252 0) 55 255 128
theorem setB_len (l : List Int) (i : Nat) (a b : Int) : (setB l i a b).length = l.length := by unfold setB; simp
theorem clampL_len (l : List Int) : (clampL l).length = l.length := by unfold clampL; rw [setB_len, setB_len]
theorem fun5 : Fun Tryz.prog 5 Tryz.f5 := ⟨Tryz.func5, by kernel_rfl, by kernel_rfl⟩
def spC (setB : List Int → Nat → Int → Int → List Int) : Sp := spOf [e20, ⟨21, fun args V _ => match args with
  | [.g (.a (.v (.int .i64 x))), .g (.a (.v (.int .u8 y))), .g (.a (.v (.int .u8 z))), .g (.a (.p k 0))] => match at21 x y z, box21 V k with
    | some (i, keep, set), some b => some ⟨.tup [], [(k, ⟨[.s b.kr 56 b.cap], b.t0, b.o0, true⟩), (b.kr, ⟨[.r .u8 (setB b.l i keep set)], b.t, b.o, true⟩)], [b.l.length = 56]⟩
    | _, _ => none
  | _ => none⟩]
theorem spC_ok : SpOk Tryz.prog (spC setB) := spOk_cons e20_ok (spOk_cons e21_ok spOk_nil)
def clampG (setB : List Int → Nat → Int → Int → List Int) (l : List Int) : List Int := setB (setB l 0 252 0) 55 255 128
theorem run5 (setB : List Int → Nat → Int → Int → List Int) (l : List Int) (t : TypeId) (cap : Option Nat) :
    ansM 1 (runFn Tryz.prog (spC setB) false 50 Tryz.f5 [.g (.a (.s 0 56 cap))] [some (rowBlk l t)]) = some (.tup [.a (.s 1 56 none), .a (.v (.int .i64 0))], [(setB l 0 252 0).length = 56, l.length = 56, l.length = 56], some ⟨[.r .u8 (clampG setB l)], 5, true, true⟩) := by
  show ansM _ _ = some _; kernel_rfl
def e5 (clamp : List Int → List Int) : Ent := ⟨5, fun args V kn => match args with
  | [.g (.a (.s k 56 _))] => match rowV V 56 k with
    | some (l, ob) => some ⟨.tup [.a (.s kn 56 none), .a (.v (.int .i64 0))], [(kn, ⟨[.r .u8 (clamp l)], 5, true, true⟩)], ob⟩
    | none => none
  | _ => none⟩
theorem e5_ok : EntOk Tryz.prog (e5 clampL) := fun args V kn o ho hob w0 ρ w H hR hV hn hfx g3 => by
  unfold e5 at ho
  simp only at ho
  split at ho
  · rename_i k cap
    split at ho
    · rename_i l ob hl
      obtain rfl := Option.some.inj ho
      obtain ⟨b, hk, h56, hfl⟩ := rowV_spec hl hob
      exact mk_run hm spC_ok fun5 false 50 1 (run5 setB l b.t cap) (fun p hp => by
        simp only [List.mem_cons, List.not_mem_nil, or_false] at hp
        rcases hp with rfl | rfl | rfl
        · rw [setB_len]; exact h56
        · exact h56
        · exact h56) (by kernel_rfl) hR hn hfx (one_holds hR (hV _ _ hk) hfl)
    · cases ho
  · cases ho
end Go.Proofs.YtkiaodihfofbnaaGreatDoor.X
namespace Go.Proofs.YtkiaodihfofbnaaGreatDoor.X
open Go Go.RowKit
set_option maxRecDepth 100000

theorem noGoto_ret {Q : Exit → Act → World → Prop} {a : Act} {w : World} (h : Q .ret a w) : Exit.noGoto Q Ex.ret.out a w := h
def spD (sw : Int → El × El → El × El) (stX : El × El → El × El → El × El) (stZ : El → El × El → El × El → El × El) (mul : El → El → El) (inv : El → El) : Sp :=
  spOf [e30, ent2 31 pE2 pI fun p b => E2 (sw b p), ent3 32 pE pE2 pE2 fun u x z => .tup [.agg [.e (stX x z).1, .e (stX x z).2], .agg [.e (stZ u x z).1, .e (stZ u x z).2]], ent2 33 pE pE fun x y => E1 (mul x y), ent1 34 pE fun x => E1 (inv x)]
theorem spD_ok : SpOk Tryz.prog (spD swE stepX stepZ mulE invE) := spOk_cons e30_ok (spOk_cons e31_ok (spOk_cons e32_ok (spOk_cons e33_ok (spOk_cons e34_ok spOk_nil))))
noncomputable def scope7 : Code := match tailS 1 ((Tryz.f7.body).getD .skip) with
  | .scope c => c
  | _ => .skip
noncomputable def loop7 : Code := match tailS 4 scope7 with
  | .seq (.seq _ (.block _ (.loop c))) _ => c
  | _ => .skip
def z8 : List At := vals (List.replicate 8 (.int .u64 0))
def bI (b : Bool) : Int := if b then 1 else 0
abbrev T7 (cap : Option Nat) (last : Bool) (m : Int) : List (Option AV) := mkA [(0, .g (.a (.s 0 56 cap))), (3, ptr 1), (4, ptr 2), (5, I1 .i64 0), (6, ptr 9), (7, ptr 10), (8, I1 .i64 (bI last)), (9, I1 .i64 m)] 71 0
abbrev H7 (l : List Int) (t : TypeId) (u : El) (x z : El × El) : List (Option Blk) := mkA [(0, rowBlk l t), (1, (⟨[.e u], 29, false, true⟩ : Blk)), (2, ⟨z8, 29, false, true⟩), (9, ⟨[.e x.1, .e x.2], 71, false, true⟩), (10, ⟨[.e z.1, .e z.2], 71, false, true⟩)] 11 0
def ob7 (l : List Int) (m : Int) (r : Nat) (b : Bool) : List Prop :=
  [Value.int .i64 (IntKind.i64.wrap (m - 1)) = Value.int .i64 (m - 1), Value.bool (decide (m < 0)) = Value.bool false, Value.int .u8 (anB ((l.getD ((qi m).toNat * 1) 0).fdiv (2 ^ r)) 1) = Value.int .u8 (bI b), Value.int .i64 (m.tmod 8) = Value.int .i64 (r : Int), (qi m).toNat * 1 < l.length, 0 ≤ qi m ∧ qi m < ((56 : Nat) : Int), Value.bool (decide (m ≥ 0)) = Value.bool true]
theorem round7 (sw : Int → El × El → El × El) (stX : El × El → El × El → El × El) (stZ : El → El × El → El × El → El × El) (mul : El → El → El) (inv : El → El) (l : List Int) (t : TypeId) (cap : Option Nat) (u : El) (x z : El × El) (last b : Bool) (m : Int) (r : Nat) (hr : r < 8) :
    toA Tryz.prog (spD sw stX stZ mul inv) ⟨true, [(30, .bool true), (37, .int .i64 (r : Int)), (39, .int .u8 (bI b)), (57, .bool false), (28, .int .i64 (m - 1))]⟩ 60 loop7 ⟨T7 cap last m, H7 l t u x z, []⟩ [0, 3, 4, 5, 6, 7, 8, 9] [0, 1, 2, 9, 10] 11 =
      some (.normal, ⟨T7 cap b (m - 1), H7 l t u (stX (sw (bI (b != last)) x) (sw (bI (b != last)) z)) (stZ u (sw (bI (b != last)) x) (sw (bI (b != last)) z)), ob7 l m r b⟩) := by
  have h8 : r = 0 ∨ r = 1 ∨ r = 2 ∨ r = 3 ∨ r = 4 ∨ r = 5 ∨ r = 6 ∨ r = 7 := by omega
  rcases h8 with rfl | rfl | rfl | rfl | rfl | rfl | rfl | rfl <;> cases b <;> cases last <;> (show toA _ _ _ _ _ _ _ _ _ = some _; kernel_rfl)
theorem end7 (sw : Int → El × El → El × El) (stX : El × El → El × El → El × El) (stZ : El → El × El → El × El → El × El) (mul : El → El → El) (inv : El → El) (l : List Int) (t : TypeId) (cap : Option Nat) (u : El) (x z : El × El) (last : Bool) :
    toA Tryz.prog (spD sw stX stZ mul inv) ⟨false, []⟩ 60 loop7 ⟨T7 cap last (-1), H7 l t u x z, []⟩ [0, 3, 4, 5, 6, 7, 8, 9] [0, 1, 2, 9, 10] 11 =
      some (.exit 0, ⟨T7 cap false (-1), H7 l t u (sw (bI (false != last)) x) (sw (bI (false != last)) z), []⟩) := by
  cases last <;> (show toA _ _ _ _ _ _ _ _ _ = some _; kernel_rfl)
theorem ob7_met {l : List Int} (hb : Bytes256 l) (hl : l.length = 56) {m : Nat} (h : m < 448) : Met (ob7 l (m : Int) (m % 8) (tbit l m)) := by
  have h101 := ob101_met hb hl h
  intro p hp
  simp only [ob7, List.mem_cons, List.not_mem_nil, or_false] at hp
  rcases hp with rfl | rfl | rfl | rfl | rfl | rfl | rfl
  · rw [wrap_in (by omega)]
  · rw [decide_eq_false (by omega)]
  · exact h101 _ (by simp [ob101, bI])
  · exact h101 _ (by simp [ob101])
  · exact h101 _ (by simp [ob101])
  · exact h101 _ (by simp [ob101])
  · rw [decide_eq_true (by omega)]
structure LS where
  x : El × El
  z : El × El
  b : Bool
/-- x, z and the last bit behind j bits, the highest one first. -/
def ladG (sw : Int → El × El → El × El) (stX : El × El → El × El → El × El) (stZ : El → El × El → El × El → El × El) (l : List Int) (u : El) : Nat → LS
  | 0 => ⟨(E1', u), (E0, E1'), false⟩
  | j + 1 =>
    let s := ladG sw stX stZ l u j
    let b := tbit l (447 - j)
    let k := bI (b != s.b)
    ⟨stX (sw k s.x) (sw k s.z), stZ u (sw k s.x) (sw k s.z), b⟩
def ladS : List Int → El → Nat → LS := ladG swE stepX stepZ
def endS (s : LS) : El := mulE (swE (bI (false != s.b)) s.x).1 (invE (swE (bI (false != s.b)) s.z).1)
def ladE (l : List Int) (u : El) : El := endS (ladS l u 448)
theorem fun7 : Fun Tryz.prog 7 Tryz.f7 := ⟨Tryz.func7, by kernel_rfl, by kernel_rfl⟩
theorem ladder_calls {l : List Int} (hb : Bytes256 l) (hl : l.length = 56) (t : TypeId) (cap : Option Nat) (u : El) {w : World} {ρ : Rho} (hR : Ref w ρ w (lk [some (rowBlk l t)])) :
    Calls Tryz.prog 7 (argsV ρ [.g (.a (.s 0 56 cap)), E1 u]) w fun e w' => ∃ ρ', e = .returned ((AV.tup [.agg [.e (ladE l u)], .a (.v (.int .i64 0))]).val ρ') ∧ Below w.heap.size w w' := by
  refine fun_wp (H := [some (rowBlk l t)]) fun7.at_ (c := (Tryz.f7.body).getD .skip) rfl (by kernel_rfl) hR fun a hs => ?_
  refine toS_sound (sy := false) (m := 20) (n := 1) (ts := [0, 3, 4, 5]) (ks := [0, 1, 2]) (hl := 3) (st' := ⟨mkA [(0, .g (.a (.s 0 56 cap))), (3, ptr 1), (4, ptr 2), (5, I1 .i64 0)] 71 0, (H7 l t u (u, u) (u, u)).take 3, []⟩) hm spD_ok (by kernel_rfl) met0 hs fun ρ1 a1 w1 _ s1 => ?_
  refine wp_scope_straight ?_
  refine toS_sound (c := scope7) (sy := false) (m := 20) (n := 4) (ts := [0, 3, 4, 5, 6, 7, 8]) (ks := [0, 1, 2, 9, 10]) (hl := 11) (st' := ⟨mkA [(0, .g (.a (.s 0 56 cap))), (3, ptr 1), (4, ptr 2), (5, I1 .i64 0), (6, ptr 9), (7, ptr 10), (8, I1 .i64 0)] 71 0, H7 l t u (E1', u) (E0, E1'), []⟩) hm spD_ok (by kernel_rfl) met0 s1 fun ρ2 a2 w2 _ s2 => ?_
  refine wp_seq (wp_seq ?_)
  refine toA_sound (sy := false) (n := 20) (ts := [0, 3, 4, 5, 6, 7, 8, 9]) (ks := [0, 1, 2, 9, 10]) (hl := 11) (ex := .normal) (st' := ⟨T7 cap false 447, H7 l t u (E1', u) (E0, E1'), []⟩) hm spD_ok (by kernel_rfl) met0 s2 fun ρ3 a3 w3 _ s3 => ?_
  refine wp_block (wp_loop_up 448 (fun j a w' => ∃ ρ', StOk w ρ' ⟨T7 cap (ladS l u j).b (447 - (j : Int)), H7 l t u (ladS l u j).x (ladS l u j).z, []⟩ a w') ⟨ρ3, by rw [show (447 - ((0 : Nat) : Int)) = 447 from rfl]; exact s3⟩ (fun j hj a w' ⟨ρ', h⟩ => ?_) (fun a w' ⟨ρ', h⟩ => ?_))
  · have e : ladS l u (j + 1) = ⟨stepX (swE (bI (tbit l (447 - j) != (ladS l u j).b)) (ladS l u j).x) (swE (bI (tbit l (447 - j) != (ladS l u j).b)) (ladS l u j).z), stepZ u (swE (bI (tbit l (447 - j) != (ladS l u j).b)) (ladS l u j).x) (swE (bI (tbit l (447 - j) != (ladS l u j).b)) (ladS l u j).z), tbit l (447 - j)⟩ := rfl
    rw [e]
    generalize ladS l u j = s at h ⊢
    have em : (447 - (j : Int)) = ((447 - j : Nat) : Int) := by omega
    rw [em] at h
    have hr := round7 swE stepX stepZ mulE invE l t cap u s.x s.z s.b (tbit l (447 - j)) ((447 - j : Nat) : Int) ((447 - j) % 8) (Nat.mod_lt _ (by decide))
    refine toA_sound hm spD_ok hr (ob7_met hb hl (by omega)) h fun ρ4 a4 w4 _ s4 => ⟨ρ4, ?_⟩
    have e2 : (447 - ((j + 1 : Nat) : Int)) = ((447 - j : Nat) : Int) - 1 := by omega
    rw [e2]
    exact ⟨s4.bnd, s4.rel, s4.ref⟩
  · have hl : ladE l u = endS (ladS l u 448) := rfl
    rw [hl]
    generalize ladS l u 448 = s at h ⊢
    refine toA_sound hm spD_ok (end7 swE stepX stepZ mulE invE l t cap u s.x s.z s.b) met0 h fun ρ4 a4 w4 _ s4 => ?_
    have hx : endS s = mulE (swE (bI (false != s.b)) s.x).1 (invE (swE (bI (false != s.b)) s.z).1) := rfl
    rw [hx]
    generalize swE (bI (false != s.b)) s.x = x at s4 ⊢
    generalize swE (bI (false != s.b)) s.z = z at s4 ⊢
    refine toA_sound (sy := false) (n := 20) (ts := [4, 5]) (ks := [2]) (hl := 3) (ex := .ret) (st' := ⟨mkA [(4, ptr 2), (5, I1 .i64 0)] 71 0, mkA [(2, (⟨[.e (mulE x.1 (invE z.1))], 29, false, true⟩ : Blk))] 3 0, []⟩) hm spD_ok (by kernel_rfl) met0 s4 fun ρ5 a5 w5 hρ5 s5 => ?_
    refine noGoto_ret ?_
    exact fun_end s5 (l := [.agg [.e (mulE x.1 (invE z.1))], .a (.v (.int .i64 0))]) (by kernel_rfl) ⟨ρ5, rfl, s5.ref.below⟩ (.inl rfl)
def e7 (lad : List Int → El → El) : Ent := ⟨7, fun args V _ => match args with
  | [.g (.a (.s k 56 _)), .g (.agg [.e u])] => match rowV V 56 k with
    | some (l, ob) => some ⟨.tup [.agg [.e (lad l u)], .a (.v (.int .i64 0))], [], Bytes256 l :: ob⟩
    | none => none
  | _ => none⟩
theorem e7_ok : EntOk Tryz.prog (e7 ladE) := fun args V kn o ho hob w0 ρ w H hR hV g1 g2 g3 => by
  unfold e7 at ho
  simp only at ho
  split at ho
  · rename_i k cap u
    split at ho
    · rename_i l ob hl
      obtain rfl := Option.some.inj ho
      have h256 : Bytes256 l := hob _ (List.mem_cons_self ..)
      obtain ⟨b, hk, h56, hfl⟩ := rowV_spec hl (fun p hp => hob p (List.mem_cons_of_mem _ hp))
      refine does_ref hR ?_
      have h := does_of (ρ := ρ) fun7 rfl (ladder_calls h256 h56 b.t cap u (read_ref (w := w) (ρ := fun _ => ρ k) rfl (one_holds hR (hV _ _ hk) hfl)))
      show Does Tryz.prog 7 (argsV ρ [.g (.a (.s k 56 cap)), E1 u]) w fun v w' => v = (AV.tup [.agg [.e (ladE l u)], .a (.v (.int .i64 0))]).val ρ ∧ Below w.heap.size w w'
      generalize ladE l u = q at h ⊢
      exact h
    · cases ho
  · cases ho
end Go.Proofs.YtkiaodihfofbnaaGreatDoor.X
namespace Go.Proofs.YtkiaodihfofbnaaGreatDoor.X
open Go Go.RowKit
set_option maxRecDepth 100000

/-! ### sized -/
theorem fun37 : Fun Tryz.prog 37 Tryz.f37 := ⟨Tryz.func37, by kernel_rfl, by kernel_rfl⟩
structure Box2 where
  k1 : Nat
  c1 : Option Nat
  k2 : Nat
  c2 : Option Nat
  t : TypeId
  o : Bool
  w : Bool
def box2 (V : View) (k : Nat) : Option Box2 := match V k with
  | some b => match b.cs with
    | [.s k1 56 c1, .s k2 56 c2] => some ⟨k1, c1, k2, c2, b.t, b.opn, b.own⟩
    | _ => none
  | none => none
theorem box2_spec {V : View} {k : Nat} {x : Box2} (h : box2 V k = some x) : V k = some ⟨[.s x.k1 56 x.c1, .s x.k2 56 x.c2], x.t, x.o, x.w⟩ := by
  unfold box2 at h
  split at h
  · rename_i b hb
    split at h
    · rename_i k1 c1 k2 c2 hc
      obtain rfl := Option.some.inj h
      obtain ⟨cs, t, o, w⟩ := b
      simp only at hc
      subst hc
      exact hb
    · cases h
  · cases h
def e37 : Ent := ⟨37, fun args V _ => match args with
  | [.g (.a (.s k 2 _))] => match box2 V k with
    | some _ => some ⟨B1 true, [], []⟩
    | none => none
  | _ => none⟩
theorem e37_ok : EntOk Tryz.prog e37 := fun args V kn o ho hob w0 ρ w H hR hV g1 g2 g3 => by
  unfold e37 at ho
  simp only at ho
  split at ho
  · rename_i k cap
    split at ho
    · rename_i x hx
      obtain rfl := Option.some.inj ho
      have hk := hV _ _ (box2_spec hx)
      refine does_ref hR ?_
      exact caps_run (args0 := [.g (.a (.s 0 2 cap))]) (H0 := [some ⟨[.s 1 56 x.c1, .s 2 56 x.c2], x.t, x.o, false⟩, none, none]) (r := B1 true) (ob := []) hm spOk_nil fun37 false 60 (by kernel_rfl) met0 (by kernel_rfl) (sel3 k x.k1 x.k2) hR fun i b0 hi => by
        match i, hi with
        | 0, hi => obtain rfl := Option.some.inj hi; exact ⟨_, hk, rfl, rfl, rfl⟩
        | 1, hi => cases hi
        | 2, hi => cases hi
    · cases ho
  · cases ho

/-! ### X448 -/
theorem fun9 : Fun Tryz.prog 9 Tryz.f9 := ⟨Tryz.func9, by kernel_rfl, by kernel_rfl⟩
def spX (clamp : List Int → List Int) (lad : List Int → El → El) : Sp := spOf [e37, e5 clamp, e38, e7 lad, e12, e10]
theorem spX_ok : SpOk Tryz.prog (spX clampL ladE) := spOk_cons e37_ok (spOk_cons e5_ok (spOk_cons e38_ok (spOk_cons e7_ok (spOk_cons e12_ok (spOk_cons e10_ok spOk_nil)))))
def ob9 (clamp : List Int → List Int) (lad : List Int → El → El) (l m : List Int) (b : Bool) : List Prop :=
  [Value.bool (isZ (lad (clamp l) (ofE m))) = Value.bool b, Bytes256 (clamp l), (clamp l).length = 56, Bytes256 m, m.length = 56, l.length = 56]
theorem run9 (clamp : List Int → List Int) (lad : List Int → El → El) (l m : List Int) (t t' : TypeId) (c c' : Option Nat) :
    ansM 6 (runFn Tryz.prog (spX clamp lad) ⟨false, [(43, .bool false)]⟩ 60 Tryz.f9 [.g (.a (.s 0 56 c)), .g (.a (.s 1 56 c'))] [some (rowBlk l t), some (rowBlk m t')]) =
      some (.tup [.a (.s 6 56 none), .a (.v (.int .i64 0))], ob9 clamp lad l m false, some ⟨[.r .u8 (bytesE (lad (clamp l) (ofE m)))], 5, true, true⟩) := by
  show ansM _ _ = some _; kernel_rfl
theorem run9z (clamp : List Int → List Int) (lad : List Int → El → El) (l m : List Int) (t t' : TypeId) (c c' : Option Nat) :
    ansOf (runFn Tryz.prog (spX clamp lad) ⟨false, [(43, .bool true)]⟩ 60 Tryz.f9 [.g (.a (.s 0 56 c)), .g (.a (.s 1 56 c'))] [some (rowBlk l t), some (rowBlk m t')]) =
      some (.tup [.a (.v (.slice none 0 0)), .a (.v (.int .i64 15))], ob9 clamp lad l m true) := by
  show ansOf _ = some _; kernel_rfl
/-- What X448 reckons. -/
def xE (lad : List Int → El → El) (clamp : List Int → List Int) (l m : List Int) : El := lad (clamp l) (ofE m)
def e9t (clamp : List Int → List Int) (lad : List Int → El → El) : Ent := ⟨9, fun args V kn => match args with
  | [.g (.a (.s k 56 _)), .g (.a (.s k' 56 _))] => match rowV V 56 k, rowV V 56 k' with
    | some (l, ob), some (m, ob') => some ⟨.tup [.a (.s kn 56 none), .a (.v (.int .i64 0))], [(kn, ⟨[.r .u8 (bytesE (lad (clamp l) (ofE m)))], 5, true, true⟩)], Bytes256 l :: Bytes256 m :: (isZ (lad (clamp l) (ofE m)) = false) :: (ob ++ ob')⟩
    | _, _ => none
  | _ => none⟩
def e9z (clamp : List Int → List Int) (lad : List Int → El → El) : Ent := ⟨9, fun args V _ => match args with
  | [.g (.a (.s k 56 _)), .g (.a (.s k' 56 _))] => match rowV V 56 k, rowV V 56 k' with
    | some (l, ob), some (m, ob') => some ⟨.tup [.a (.v (.slice none 0 0)), .a (.v (.int .i64 15))], [], Bytes256 l :: Bytes256 m :: (isZ (lad (clamp l) (ofE m)) = true) :: (ob ++ ob')⟩
    | _, _ => none
  | _ => none⟩
theorem orB_256 (a b : Int) : 0 ≤ orB a b ∧ orB a b < 256 := by
  unfold orB IntKind.wrap
  simp only [IntKind.bits, IntKind.signed, Bool.false_and, Bool.false_eq_true, if_false]
  have e : (2 : Int) ^ 8 = 256 := rfl
  rw [e]
  exact ⟨Int.emod_nonneg _ (by decide), Int.emod_lt_of_pos _ (by decide)⟩
theorem setB_256 {l : List Int} (h : Bytes256 l) (i : Nat) (a b : Int) : Bytes256 (setB l i a b) := fun x hx => by
  unfold setB at hx
  rcases List.mem_or_eq_of_mem_set hx with hx | rfl
  · exact h x hx
  · exact orB_256 _ _
theorem clampL_256 {l : List Int} (h : Bytes256 l) : Bytes256 (clampL l) := setB_256 (setB_256 h _ _ _) _ _ _
theorem two_holds {w0 : Base} {w : World} {ρ : Rho} {H : View} (hR : Ref w0 ρ w H) {k k' : Nat} {b b' : Blk} (hk : H k = some b) (hk' : H k' = some b') {l m : List Int} (hl : ∀ ρ, ∃ r, flat ρ b.cs = l.map (Value.int .u8) ++ r) (hl' : ∀ ρ, ∃ r, flat ρ b'.cs = m.map (Value.int .u8) ++ r) :
    ∀ i c, lk [some (rowBlk l b.t), some (rowBlk m b'.t)] i = some c → Holds (fun i => ρ (sel2 k k' i)) w i c ∧ (ρ (sel2 k k' i)).1 < w.heap.size := fun i c hi => by
  match i, hi with
  | 0, hi => obtain rfl := Option.some.inj hi; exact row_holds hR hk hl (fun i => ρ (sel2 k k' i)) 0 rfl
  | 1, hi => obtain rfl := Option.some.inj hi; exact row_holds hR hk' hl' (fun i => ρ (sel2 k k' i)) 1 rfl
theorem ob9_met {l m : List Int} (hb : Bytes256 l) (hb' : Bytes256 m) (h : l.length = 56) (h' : m.length = 56) {b : Bool} (hz : isZ (ladE (clampL l) (ofE m)) = b) : Met (ob9 clampL ladE l m b) := fun p hp => by
  simp only [ob9, List.mem_cons, List.not_mem_nil, or_false] at hp
  rcases hp with rfl | rfl | rfl | rfl | rfl | rfl
  · rw [hz]
  · exact clampL_256 hb
  · rw [clampL_len]; exact h
  · exact hb'
  · exact h'
  · exact h
theorem e9t_ok : EntOk Tryz.prog (e9t clampL ladE) := fun args V kn o ho hob w0 ρ w H hR hV hn hfx g3 => by
  unfold e9t at ho
  simp only at ho
  split at ho
  · rename_i k c k' c'
    split at ho
    · rename_i l ob m ob' hl hl'
      obtain rfl := Option.some.inj ho
      have m1 := hob _ (List.mem_cons_self ..)
      have m2 := hob _ (List.mem_cons_of_mem _ (List.mem_cons_self ..))
      have m3 := hob _ (List.mem_cons_of_mem _ (List.mem_cons_of_mem _ (List.mem_cons_self ..)))
      have m4 : Met (ob ++ ob') := fun p hp => hob p (List.mem_cons_of_mem _ (List.mem_cons_of_mem _ (List.mem_cons_of_mem _ hp)))
      obtain ⟨b, hk, h56, hfl⟩ := rowV_spec hl m4.left
      obtain ⟨b', hk', h56', hfl'⟩ := rowV_spec hl' m4.right
      exact mk_run hm spX_ok fun9 _ 60 6 (run9 clampL ladE l m b.t b'.t c c') (ob9_met m1 m2 h56 h56' m3) (by kernel_rfl) hR hn hfx (two_holds hR (hV _ _ hk) (hV _ _ hk') hfl hfl')
    · cases ho
  · cases ho
theorem e9z_ok : EntOk Tryz.prog (e9z clampL ladE) := fun args V kn o ho hob w0 ρ w H hR hV hn hfx g3 => by
  unfold e9z at ho
  simp only at ho
  split at ho
  · rename_i k c k' c'
    split at ho
    · rename_i l ob m ob' hl hl'
      obtain rfl := Option.some.inj ho
      have m1 := hob _ (List.mem_cons_self ..)
      have m2 := hob _ (List.mem_cons_of_mem _ (List.mem_cons_self ..))
      have m3 := hob _ (List.mem_cons_of_mem _ (List.mem_cons_of_mem _ (List.mem_cons_self ..)))
      have m4 : Met (ob ++ ob') := fun p hp => hob p (List.mem_cons_of_mem _ (List.mem_cons_of_mem _ (List.mem_cons_of_mem _ hp)))
      obtain ⟨b, hk, h56, hfl⟩ := rowV_spec hl m4.left
      obtain ⟨b', hk', h56', hfl'⟩ := rowV_spec hl' m4.right
      refine does_ref hR ?_
      exact read_run hm spX_ok fun9 _ 60 (run9z clampL ladE l m b.t b'.t c c') (ob9_met m1 m2 h56 h56' m3) (by kernel_rfl) (two_holds hR (hV _ _ hk) (hV _ _ hk') hfl hfl')
    · cases ho
  · cases ho

/-! ### Public -/
def baseB : List Int := bytesE five'
theorem fun103 : Fun Tryz.prog 103 Tryz.f103 := ⟨Tryz.func103, by kernel_rfl, by kernel_rfl⟩
def spP (clamp : List Int → List Int) (lad : List Int → El → El) : Sp := spOf [e30, e10, e9t clamp lad]
theorem spP_ok : SpOk Tryz.prog (spP clampL ladE) := spOk_cons e30_ok (spOk_cons e10_ok (spOk_cons e9t_ok spOk_nil))
def obP (clamp : List Int → List Int) (lad : List Int → El → El) (l : List Int) : List Prop :=
  [Bytes256 l, Bytes256 (bytesE five'), isZ (lad (clamp l) (ofE (bytesE five'))) = false, l.length = 56, (bytesE five').length = 56]
theorem run103 (clamp : List Int → List Int) (lad : List Int → El → El) (l : List Int) (t : TypeId) (c : Option Nat) :
    ansM 2 (runFn Tryz.prog (spP clamp lad) false 60 Tryz.f103 [.g (.a (.s 0 56 c))] [some (rowBlk l t)]) =
      some (.tup [.a (.s 2 56 none), .a (.v (.int .i64 0))], obP clamp lad l, some ⟨[.r .u8 (bytesE (lad (clamp l) (ofE (bytesE five'))))], 5, true, true⟩) := by
  show ansM _ _ = some _; kernel_rfl
theorem bytesE_len (x : El) : (bytesE x).length = 56 := rawL_len _ 8
theorem wrap8_range (z : Int) : 0 ≤ IntKind.u8.wrap z ∧ IntKind.u8.wrap z < 256 := by
  unfold IntKind.wrap
  simp only [IntKind.bits, IntKind.signed, Bool.false_and, Bool.false_eq_true, if_false]
  have e : (2 : Int) ^ 8 = 256 := rfl
  rw [e]
  exact ⟨Int.emod_nonneg _ (by decide), Int.emod_lt_of_pos _ (by decide)⟩
theorem rawL_256 (x : El) : ∀ n, Bytes256 (rawL x n)
  | 0 => fun y hy => by cases hy
  | n + 1 => fun y hy => by
    rw [rawL] at hy
    rcases List.mem_append.1 hy with hy | hy
    · exact rawL_256 x n y hy
    · unfold byL at hy
      obtain ⟨j, _, rfl⟩ := List.mem_map.1 hy
      exact wrap8_range _
theorem bytesE_256 (x : El) : Bytes256 (bytesE x) := rawL_256 _ 8
def e103 (clamp : List Int → List Int) (lad : List Int → El → El) : Ent := ⟨103, fun args V kn => match args with
  | [.g (.a (.s k 56 _))] => match rowV V 56 k with
    | some (l, ob) => some ⟨.tup [.a (.s kn 56 none), .a (.v (.int .i64 0))], [(kn, ⟨[.r .u8 (bytesE (lad (clamp l) (ofE (bytesE five'))))], 5, true, true⟩)], Bytes256 l :: (isZ (lad (clamp l) (ofE (bytesE five'))) = false) :: ob⟩
    | none => none
  | _ => none⟩
theorem e103_ok : EntOk Tryz.prog (e103 clampL ladE) := fun args V kn o ho hob w0 ρ w H hR hV hn hfx g3 => by
  unfold e103 at ho
  simp only at ho
  split at ho
  · rename_i k c
    split at ho
    · rename_i l ob hl
      obtain rfl := Option.some.inj ho
      have m1 := hob _ (List.mem_cons_self ..)
      have m2 := hob _ (List.mem_cons_of_mem _ (List.mem_cons_self ..))
      obtain ⟨b, hk, h56, hfl⟩ := rowV_spec hl (fun p hp => hob p (List.mem_cons_of_mem _ (List.mem_cons_of_mem _ hp)))
      exact mk_run hm spP_ok fun103 _ 60 2 (run103 clampL ladE l b.t c) (fun p hp => by
        simp only [obP, List.mem_cons, List.not_mem_nil, or_false] at hp
        rcases hp with rfl | rfl | rfl | rfl | rfl
        · exact m1
        · exact bytesE_256 _
        · exact m2
        · exact h56
        · exact bytesE_len _) (by kernel_rfl) hR hn hfx (one_holds hR (hV _ _ hk) hfl)
    · cases ho
  · cases ho
end Go.Proofs.YtkiaodihfofbnaaGreatDoor.X
namespace Go.Proofs.YtkiaodihfofbnaaGreatDoor.X
open Go Go.RowKit
set_option maxRecDepth 100000

structure Box1 where
  k1 : Nat
  c1 : Option Nat
  t : TypeId
  o : Bool
  w : Bool
def box1 (V : View) (k : Nat) : Option Box1 := match V k with
  | some b => match b.cs with
    | [.s k1 56 c1] => some ⟨k1, c1, b.t, b.opn, b.own⟩
    | _ => none
  | none => none
theorem box1_spec {V : View} {k : Nat} {x : Box1} (h : box1 V k = some x) : V k = some ⟨[.s x.k1 56 x.c1], x.t, x.o, x.w⟩ := by
  unfold box1 at h
  split at h
  · rename_i b hb
    split at h
    · rename_i k1 c1 hc
      obtain rfl := Option.some.inj h
      obtain ⟨cs, t, o, w⟩ := b
      simp only at hc
      subst hc
      exact hb
    · cases h
  · cases h
theorem box_holds {w0 : Base} {w : World} {ρ : Rho} {H : View} (hR : Ref w0 ρ w H) {k : Nat} {x : Box1} {b : Blk} (hk : H k = some ⟨[.s x.k1 56 x.c1], x.t, x.o, x.w⟩) (hk' : H x.k1 = some b) {l : List Int} (hl : ∀ ρ, ∃ r, flat ρ b.cs = l.map (Value.int .u8) ++ r) :
    ∀ i c, lk [some ⟨[.s 1 56 x.c1], x.t, x.o, false⟩, some (rowBlk l b.t)] i = some c → Holds (fun i => ρ (sel2 k x.k1 i)) w i c ∧ (ρ (sel2 k x.k1 i)).1 < w.heap.size := fun i c hi => by
  match i, hi with
  | 0, hi =>
    obtain rfl := Option.some.inj hi
    obtain ⟨rest, hr, hh⟩ := hR.holds _ _ hk
    exact ⟨⟨rest, hr, hh⟩, hR.lt hk⟩
  | 1, hi => obtain rfl := Option.some.inj hi; exact row_holds hR hk' hl (fun i => ρ (sel2 k x.k1 i)) 1 rfl

/-! ### The call -/
theorem fun69 : Fun Tryz.prog 69 Tryz.f69 := ⟨Tryz.func69, by kernel_rfl, by kernel_rfl⟩
noncomputable def calls69 : AV := match ansOf (runFn Tryz.prog (spOf []) false 60 Tryz.f69 [] []) with
  | some (r, _) => r
  | none => .tup []
noncomputable def e69 : Ent := ent0 69 calls69
theorem e69_ok : EntOk Tryz.prog e69 := ent0_ok (plain_run (args := []) hm spOk_nil fun69 false 60 (ob := []) (by kernel_rfl) met0 (by kernel_rfl))
theorem fun68 : Fun Tryz.prog 68 Tryz.f68 := ⟨Tryz.func68, by kernel_rfl, by kernel_rfl⟩
def e68 : Ent := ⟨68, fun args _ _ => match args with
  | [.g (.a (.v (.int .i64 (.ofNat 3))))] => some ⟨I1 .i64 1, [], []⟩
  | _ => none⟩
theorem e68_ok : EntOk Tryz.prog e68 := fun args V kn o ho hob w0 ρ w H hR hV hn hf hfx => by
  unfold e68 at ho
  simp only at ho
  split at ho
  · obtain rfl := Option.some.inj ho
    exact does_ref hR ((plain_run (args := [I1 .i64 3]) (r := I1 .i64 1) (ob := []) hm (spOk_cons e69_ok spOk_nil) fun68 false 60 (by kernel_rfl) met0 (by kernel_rfl)) w ρ)
  · cases ho
/-- What Public answers, as bytes. -/
def pubB (clamp : List Int → List Int) (lad : List Int → El → El) (l : List Int) : List Int := bytesE (lad (clamp l) (ofE (bytesE five')))
def entB (f : FuncId) (pick : List AV → Option Nat) (clamp : List Int → List Int) (lad : List Int → El → El) : Ent := ⟨f, fun args V kn => match pick args with
  | some k => match box1 V k with
    | some x => match rowV V 56 x.k1 with
      | some (l, ob) => some ⟨.tup [.a (.s kn 56 none), .a (.v (.int .i64 0))], [(kn, ⟨[.r .u8 (pubB clamp lad l)], 5, true, true⟩)], Bytes256 l :: (isZ (lad (clamp l) (ofE (bytesE five'))) = false) :: ob⟩
      | none => none
    | none => none
  | none => none⟩
def pick82 : List AV → Option Nat
  | [.g (.a (.s k 1 _))] => some k
  | _ => none
def pick42 : List AV → Option Nat
  | [.g (.a (.v (.int .i64 (.ofNat 3)))), .g (.a (.s k 1 _))] => some k
  | _ => none
theorem fun82 : Fun Tryz.prog 82 Tryz.f82 := ⟨Tryz.func82, by kernel_rfl, by kernel_rfl⟩
theorem run82 (clamp : List Int → List Int) (lad : List Int → El → El) (l : List Int) (t t' : TypeId) (o : Bool) (c c' : Option Nat) :
    ansM 2 (runFn Tryz.prog (spOf [e103 clamp lad]) false 60 Tryz.f82 [.g (.a (.s 0 1 c))] [some ⟨[.s 1 56 c'], t', o, false⟩, some (rowBlk l t)]) =
      some (.tup [.a (.s 2 56 none), .a (.v (.int .i64 0))], [Bytes256 l, isZ (lad (clamp l) (ofE (bytesE five'))) = false, l.length = 56], some ⟨[.r .u8 (pubB clamp lad l)], 5, true, true⟩) := by
  show ansM _ _ = some _; kernel_rfl
theorem e82_ok : EntOk Tryz.prog (entB 82 pick82 clampL ladE) := fun args V kn o ho hob w0 ρ w H hR hV hn hfx g3 => by
  unfold entB at ho
  simp only at ho
  split at ho
  · rename_i k hp
    unfold pick82 at hp
    split at hp
    · rename_i k' c
      obtain rfl := Option.some.inj hp
      split at ho
      · rename_i x hx
        split at ho
        · rename_i l ob hl
          obtain rfl := Option.some.inj ho
          have m1 := hob _ (List.mem_cons_self ..)
          have m2 := hob _ (List.mem_cons_of_mem _ (List.mem_cons_self ..))
          obtain ⟨b, hk, h56, hfl⟩ := rowV_spec hl (fun p hp => hob p (List.mem_cons_of_mem _ (List.mem_cons_of_mem _ hp)))
          exact mk_run hm (spOk_cons e103_ok spOk_nil) fun82 _ 60 2 (run82 clampL ladE l b.t x.t x.o c x.c1) (fun p hp => by
            simp only [List.mem_cons, List.not_mem_nil, or_false] at hp
            rcases hp with rfl | rfl | rfl
            · exact m1
            · exact m2
            · exact h56) (by kernel_rfl) hR hn hfx (box_holds hR (hV _ _ (box1_spec hx)) (hV _ _ hk) hfl)
        · cases ho
      · cases ho
    · cases hp
  · cases ho
theorem fun42 : Fun Tryz.prog 42 Tryz.f42 := ⟨Tryz.func42, by kernel_rfl, by kernel_rfl⟩
noncomputable def spS (clamp : List Int → List Int) (lad : List Int → El → El) : Sp := spOf [e68, e69, entB 82 pick82 clamp lad, e20]
theorem spS_ok : SpOk Tryz.prog (spS clampL ladE) := spOk_cons e68_ok (spOk_cons e69_ok (spOk_cons e82_ok (spOk_cons e20_ok spOk_nil)))
theorem run42 (clamp : List Int → List Int) (lad : List Int → El → El) (l : List Int) (t t' : TypeId) (o : Bool) (c c' : Option Nat) :
    ansM 3 (runFn Tryz.prog (spS clamp lad) false 60 Tryz.f42 [I1 .i64 3, .g (.a (.s 0 1 c))] [some ⟨[.s 1 56 c'], t', o, false⟩, some (rowBlk l t)]) =
      some (.tup [.a (.s 3 56 none), .a (.v (.int .i64 0))], [(pubB clamp lad l).length = 56, Bytes256 l, isZ (lad (clamp l) (ofE (bytesE five'))) = false, l.length = 56], some ⟨[.r .u8 (pubB clamp lad l)], 5, true, true⟩) := by
  show ansM _ _ = some _; kernel_rfl
theorem e42_ok : EntOk Tryz.prog (entB 42 pick42 clampL ladE) := fun args V kn o ho hob w0 ρ w H hR hV hn hfx g3 => by
  unfold entB at ho
  simp only at ho
  split at ho
  · rename_i k hp
    unfold pick42 at hp
    split at hp
    · rename_i k' c
      obtain rfl := Option.some.inj hp
      split at ho
      · rename_i x hx
        split at ho
        · rename_i l ob hl
          obtain rfl := Option.some.inj ho
          have m1 := hob _ (List.mem_cons_self ..)
          have m2 := hob _ (List.mem_cons_of_mem _ (List.mem_cons_self ..))
          obtain ⟨b, hk, h56, hfl⟩ := rowV_spec hl (fun p hp => hob p (List.mem_cons_of_mem _ (List.mem_cons_of_mem _ hp)))
          exact mk_run hm spS_ok fun42 _ 60 3 (run42 clampL ladE l b.t x.t x.o c x.c1) (fun p hp => by
            simp only [List.mem_cons, List.not_mem_nil, or_false] at hp
            rcases hp with rfl | rfl | rfl | rfl
            · exact bytesE_len _
            · exact m1
            · exact m2
            · exact h56) (by kernel_rfl) hR hn hfx (box_holds hR (hV _ _ (box1_spec hx)) (hV _ _ hk) hfl)
        · cases ho
      · cases ho
    · cases hp
  · cases ho

/-! ### The same bytes -/
theorem fun14 : Fun Tryz.prog 14 Tryz.f14 := ⟨Tryz.func14, by kernel_rfl, by kernel_rfl⟩
def one14 (l : List Int) (i : Nat) : List Prop :=
  [i * 1 < l.length, i * 1 < l.length, Value.bool (l.getD (i * 1) 0 != l.getD (i * 1) 0) = Value.bool false]
theorem run14 (l : List Int) (t t' : TypeId) (c c' : Option Nat) :
    ansOf (runFn Tryz.prog (spOf []) ⟨false, [(25, .bool false)]⟩ 100 Tryz.f14 [.g (.a (.s 0 56 c)), .g (.a (.s 1 56 c'))] [some (rowBlk l t), some (rowBlk l t')]) = some (B1 true, (List.range 56).reverse.flatMap (one14 l)) := by
  show ansOf _ = some _; kernel_rfl
/-- The same: that they are so must hold. -/
def e14 : Ent := ⟨14, fun args V _ => match args with
  | [.g (.a (.s k 56 _)), .g (.a (.s k' 56 _))] => match rowV V 56 k, rowV V 56 k' with
    | some (l, ob), some (m, ob') => some ⟨B1 true, [], (l = m) :: (ob ++ ob')⟩
    | _, _ => none
  | _ => none⟩
theorem e14_ok : EntOk Tryz.prog e14 := fun args V kn o ho hob w0 ρ w H hR hV hn hfx g3 => by
  unfold e14 at ho
  simp only at ho
  split at ho
  · rename_i k c k' c'
    split at ho
    · rename_i l ob m ob' hl hl'
      obtain rfl := Option.some.inj ho
      have m1 : l = m := hob _ (List.mem_cons_self ..)
      subst m1
      have m4 : Met (ob ++ ob') := fun p hp => hob p (List.mem_cons_of_mem _ hp)
      obtain ⟨b, hk, h56, hfl⟩ := rowV_spec hl m4.left
      obtain ⟨b', hk', h56', hfl'⟩ := rowV_spec hl' m4.right
      refine does_ref hR ?_
      exact read_run hm spOk_nil fun14 _ 100 (run14 l b.t b'.t c c') (fun p hp => by
        obtain ⟨i, hi, hp⟩ := List.mem_flatMap.1 hp
        have hi : i < 56 := by simpa using hi
        simp only [one14, List.mem_cons, List.not_mem_nil, or_false] at hp
        rcases hp with rfl | rfl | rfl
        · omega
        · omega
        · simp) (by kernel_rfl) (two_holds hR (hV _ _ hk) (hV _ _ hk') hfl hfl')
    · cases ho
  · cases ho
end Go.Proofs.YtkiaodihfofbnaaGreatDoor.X
