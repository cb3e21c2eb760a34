/- X448 of a secret number and a point's u is the u of that number times the point (the law TopCurves): part 11 of 22 of its proof: looking up, so many times a point, clone. No condition. -/
import Derived.Test.YtkiaodihfofbnaaGreatDoorM09
set_option linter.unusedVariables false
set_option linter.unusedSimpArgs false
namespace Go.Proofs.YtkiaodihfofbnaaGreatDoor.X
open Go Go.RowKit
set_option maxRecDepth 100000

def e51 (same : Int → Int → Int) : Ent := ent2 51 pI pI fun a b => I1 .i64 (same a b)
theorem e51_ok : EntOk Tryz.prog (e51 sameW) := ent2_ok fun a b => same_plain a b
def lookG (sel : Int → Pt → Pt → Pt) (same : Int → Int → Int) (l : List Pt) (j : Int) : Nat → Pt
  | 0 => idP
  | i + 1 => sel (same (i : Int) j) (lookG sel same l j i) (l.getD i zeroPt)
def spL (sel : Int → Pt → Pt → Pt) (same : Int → Int → Int) : Sp := spOf [e16, e51 same, ent3 28 pI pP pP fun b p q => P1 (sel b p q)]
theorem spL_ok : SpOk Tryz.prog (spL selP sameW) := spOk_cons e16_ok (spOk_cons e51_ok (spOk_cons e28_ok spOk_nil))
def obL (l : List Pt) : List Prop := (List.range 9).reverse.map fun i => (i * 24) % 24 = 0 ∧ (i * 24) / 24 < l.length
def ptR (p : Pt) : AV := .tup [.agg [.e p.1, .e p.2.1, .e p.2.2], .a (.v (.int .i64 0))]
theorem fun27 : Fun Tryz.prog 27 Tryz.f27 := ⟨Tryz.func27, by kernel_rfl, by kernel_rfl⟩
theorem look_run (sel : Int → Pt → Pt → Pt) (same : Int → Int → Int) (l : List Pt) (j : Nat) (hj : j < 9) (cap : Option Nat) (t : TypeId) (o : Bool) :
    ansOf (runFn Tryz.prog (spL sel same) ⟨false, []⟩ 100 Tryz.f27 [.g (.a (.s 0 9 cap)), I1 .i64 (j : Int)] [some ⟨[.t l], t, o, false⟩]) = some (ptR (lookG sel same l (j : Int) 9), obL l) := by
  have h : j = 0 ∨ j = 1 ∨ j = 2 ∨ j = 3 ∨ j = 4 ∨ j = 5 ∨ j = 6 ∨ j = 7 ∨ j = 8 := by omega
  rcases h with rfl | rfl | rfl | rfl | rfl | rfl | rfl | rfl | rfl <;> (show ansOf _ = some _; kernel_rfl)
def lookP (l : List Pt) (j : Nat) : Pt := lookG selP sameW l (j : Int) 9
def rowT (V : View) (k : Nat) : Option (List Pt) := match V k with
  | some b => match b.cs with
    | [.t l] => some l
    | _ => none
  | none => none
theorem rowT_spec {V : View} {k : Nat} {l : List Pt} (h : rowT V k = some l) : ∃ t o w, V k = some ⟨[.t l], t, o, w⟩ := by
  unfold rowT at h
  split at h
  · rename_i b hb
    split at h
    · rename_i l' hc
      obtain rfl := Option.some.inj h
      obtain ⟨cs, t, o, w⟩ := b
      simp only at hc
      subst hc
      exact ⟨t, o, w, hb⟩
    · cases h
  · cases h
def e27 (look : List Pt → Nat → Pt) : Ent := ⟨27, fun args V _ => match args with
  | [.g (.a (.s k 9 _)), .g (.a (.v (.int .i64 (.ofNat j))))] => match rowT V k with
    | some l => some ⟨ptR (look l j), [], [l.length = 9 ∧ j < 9]⟩
    | none => none
  | _ => none⟩
theorem e27_ok : EntOk Tryz.prog (e27 lookP) := fun args V kn o ho hob w0 ρ w H hR hV g1 g2 g3 => by
  unfold e27 at ho
  simp only at ho
  split at ho
  · rename_i k cap j
    split at ho
    · rename_i l hl
      obtain rfl := Option.some.inj ho
      obtain ⟨h9, hj⟩ := hob.one
      obtain ⟨t, o, w1, hk⟩ := rowT_spec hl
      refine does_ref hR ?_
      have hr := look_run selP sameW l j hj cap t o
      have h := read_run (ρ := fun _ => ρ k) hm spL_ok fun27 _ 100 hr (fun p hp => by
        simp only [obL, List.mem_map, List.mem_reverse, List.mem_range] at hp
        obtain ⟨i, hi, rfl⟩ := hp
        omega) (by kernel_rfl) (w := w) fun i b hi => by
          match i, hi with
          | 0, hi =>
            obtain rfl := Option.some.inj hi
            obtain ⟨rest, hr, hh⟩ := hR.holds _ _ (hV _ _ hk)
            exact ⟨⟨rest, hr, hh⟩, hR.lt (hV _ _ hk)⟩
      show Does Tryz.prog 27 (argsV ρ [.g (.a (.s k 9 cap)), I1 .i64 (j : Int)]) w fun v w' => v = (ptR (lookP l j)).val ρ ∧ Below w.heap.size w w'
      unfold lookP
      generalize lookG selP sameW l (j : Int) 9 = q at h ⊢
      exact h
    · cases ho
  · cases ho
end Go.Proofs.YtkiaodihfofbnaaGreatDoor.X
namespace Go.Proofs.YtkiaodihfofbnaaGreatDoor.X
open Go Go.RowKit
set_option maxRecDepth 100000

theorem fun22 : Fun Tryz.prog 22 Tryz.f22 := ⟨Tryz.func22, by kernel_rfl, by kernel_rfl⟩
def e22 : Ent := ⟨22, fun args _ _ => match args with
  | [.g (.a (.s _ 56 _))] => some ⟨.g (.a (.v (.int .i64 0))), [], []⟩
  | _ => none⟩
theorem e22_ok : EntOk Tryz.prog e22 := fun args V kn o ho hob w0 ρ w H hR hV g1 g2 g3 => by
  unfold e22 at ho
  simp only at ho
  split at ho
  · rename_i k cap
    obtain rfl := Option.some.inj ho
    refine does_ref hR ?_
    exact read_run (args := [.g (.a (.s 0 56 cap))]) (r := .g (.a (.v (.int .i64 0)))) (ob := []) hm spOk_nil fun22 false 100 (H := [none]) (ρ := fun _ => ρ k) (by kernel_rfl) met0 (by kernel_rfl) none_holds
  · cases ho
theorem fun25 : Fun Tryz.prog 25 Tryz.f25 := ⟨Tryz.func25, by kernel_rfl, by kernel_rfl⟩
def e25 : Ent := ⟨25, fun args _ kn => match args with
  | [.g (.a (.s k 113 cap))] => some ⟨.g (.a (.c 50 [] [kn])), [(kn, ⟨[.s k 113 cap], 57, false, true⟩)], []⟩
  | _ => none⟩
theorem e25_ok : EntOk Tryz.prog e25 := fun args V kn o ho hob w0 ρ w H hR hV hn hf hfx => by
  unfold e25 at ho
  simp only at ho
  split at ho
  · rename_i k cap
    obtain rfl := Option.some.inj ho
    refine does_new2 fun25 hR hn hf rfl ?_
    have h := runFn_sound (args := [.g (.a (.s 0 113 cap))]) (H := [none]) (r := .g (.a (.c 50 [] [1]))) (st := ⟨mkA [(0, .g (.a (.s 0 113 cap))), (1, ptr 1), (2, .g (.a (.c 50 [] [1]))), (3, .g (.a (.c 50 [] [1])))] 4 0, [none, some ⟨[.s 0 113 cap], 57, false, true⟩], []⟩) hm spOk_nil fun25.at_ (sy := false) (n := 20) (by kernel_rfl) met0 (bndB_spec (by kernel_rfl)) (read_ref (w := w) (ρ := fun _ => ρ k) rfl none_holds)
    refine h.mono ?_
    rintro e w' ⟨ρ', hρ', _, rfl, hR', _⟩
    have h0 : ρ' 0 = ρ k := hρ' 0 (by show 0 < 1; decide)
    have hkn : kn ≠ k := fun e => hfx (by rw [← e]; simp [idsL, AV.ids, AV.atoms, G.atoms, idsA, At.ids])
    obtain ⟨rest, hr, hh⟩ := hR'.holds 1 _ rfl
    refine ⟨(ρ' 1).1, (ρ' 1).2, ?_, hR'.below, hR'.own 1 _ rfl rfl, rest, hr, ?_⟩
    · simp [AV.val, G.val, At.val, put1_self]
    · rw [put1_self, hh]
      simp only [flat, List.flatMap_cons, List.flatMap_nil, At.cells, At.val, h0, put1_ne ρ hkn.symm]
  · cases ho
def spU (add : Pt → Pt → Pt) (dbl neg : Pt → Pt) (sel : Int → Pt → Pt → Pt) (look : List Pt → Nat → Pt) : Sp :=
  spOf [e16, e22, e23, e24, e25, e27 look, ent1 26 pP fun p => P1 (dbl p), ent2 17 pP pP fun p q => P1 (add p q), ent1 29 pP fun p => P1 (neg p), ent3 28 pI pP pP fun b p q => P1 (sel b p q)]
theorem spU_ok : SpOk Tryz.prog (spU addP dblP negP selP lookP) :=
  spOk_cons e16_ok (spOk_cons e22_ok (spOk_cons e23_ok (spOk_cons e24_ok (spOk_cons e25_ok (spOk_cons e27_ok (spOk_cons e26_ok (spOk_cons e17_ok (spOk_cons e29_ok (spOk_cons e28_ok spOk_nil)))))))))
noncomputable def pre6 : Code := (Tryz.f6.body).getD .skip
end Go.Proofs.YtkiaodihfofbnaaGreatDoor.X
namespace Go.Proofs.YtkiaodihfofbnaaGreatDoor.X
open Go Go.RowKit
set_option maxRecDepth 100000

/-- A view abides what turns no cells from B on. -/
theorem Ref.ownFrom {w0 : Base} {ρ : Rho} {W W' : World} {H : View} {B : Nat} (h : Ref w0 ρ W H) (hB : w0.w.heap.size ≤ B) {row : Option Nat} (hg : W.grownBy W' row) (hrow : ∀ r, row = some r → B ≤ r ∧ ∃ o : Obj, W.heap[r]? = some o ∧ o.isCells = false) : Ref w0 ρ W' H := by
  have hne : ∀ k, k < w0.w.heap.size → some k ≠ row := fun k hk e => by have := (hrow k e.symm).1; omega
  refine ⟨h.below.trans ⟨hg.os, hg.tape, hg.output, hg.size, fun k hk => hg.block k (Nat.lt_of_lt_of_le hk h.below_le) (hne k (Nat.lt_of_lt_of_le hk w0.le))⟩, fun k b hk => ?_, h.own, h.ext, h.inj, ⟨Nat.le_trans h.others.size hg.size, fun k o hk ho => ?_⟩, h.free, fun g hF => ?_⟩
  · obtain ⟨rest, hr, hx⟩ := h.holds k b hk
    refine ⟨rest, hr, ?_⟩
    rw [hg.block _ (h.lt hk) (fun e => ?_)]
    · exact hx
    · obtain ⟨_, o, ho, hc⟩ := hrow _ e.symm
      rw [hx] at ho
      rw [← Option.some.inj ho] at hc
      cases hc
  · have hlt := (Array.getElem?_eq_some_iff.1 hk).1
    rw [hg.block k (Nat.lt_of_lt_of_le hlt h.others.size) (hne k hlt)]
    exact h.others.same k o hk ho
  · rw [hg.block g (Nat.lt_of_lt_of_le (w0.lt g hF) h.below.size) (hne g (w0.lt g hF))]; exact h.keep g hF
/-- The same, looked at from a later world. -/
def Base.at_ (w0 : Base) (W : World) (h : w0.n ≤ W.heap.size ∧ w0.w.heap.size ≤ W.heap.size) : Base := ⟨w0.n, W, h.1, w0.F, fun g hg => Nat.lt_of_lt_of_le (w0.lt g hg) h.2⟩
theorem Ref.both {w0 : Base} {ρ : Rho} {W : World} {H : View} (h : Ref w0 ρ W H) : w0.n ≤ W.heap.size ∧ w0.w.heap.size ≤ W.heap.size := ⟨h.below_le, h.below.size⟩
theorem Ref.rebase {w0 : Base} {ρ : Rho} {W : World} {H : View} (h : Ref w0 ρ W H) : Ref (w0.at_ W h.both) ρ W H := ⟨Below.refl _ _, h.holds, h.own, h.ext, h.inj, KeepsOthers.refl _, h.free, fun _ _ => rfl⟩
theorem Ref.unbase {w0 : Base} {ρ ρ' : Rho} {W W' : World} {H H' : View} (h : Ref w0 ρ W H) (h' : Ref (w0.at_ W h.both) ρ' W' H') : Ref w0 ρ' W' H' := ⟨h.below.trans h'.below, h'.holds, h'.own, h'.ext, h'.inj, h.others.trans h'.others, h'.free, fun g hg => (h'.keep g hg).trans (h.keep g hg)⟩

/-! ### One round of Mult -/
noncomputable def rf6 : Code × Code := match tailS 6 ((Tryz.f6.body).getD .skip) with
  | .seq (.seq _ (.block _ (.rangeFunc _ _ x y))) _ => (x, y)
  | _ => (.skip, .skip)
abbrev T6 (v : Int) : List (Option AV) := mkA [(9, ptr 8), (10, ptr 9), (12, I1 .i64 v)] 69 0
abbrev H6 (ds : List Int) (tb : List Pt) (acc : Pt) : List (Option Blk) := mkA [(2, (⟨z24, 31, false, true⟩ : Blk)), (3, ⟨[.v (.int .i64 0)], 35, false, true⟩), (4, ⟨[.r .i64 ds], 3, true, true⟩), (7, ⟨[.t tb], 31, true, true⟩), (8, ⟨[.s 7 9 none], 60, false, true⟩), (9, ⟨ptC acc, 31, false, true⟩), (10, ⟨[.s 4 113 none], 57, false, true⟩)] 11 0
def sgn (v : Int) : Int := if v < 0 then 1 else 0
def stepM (add : Pt → Pt → Pt) (dbl neg : Pt → Pt) (sel : Int → Pt → Pt → Pt) (look : List Pt → Nat → Pt) (tb : List Pt) (acc : Pt) (b : Int) (j : Nat) : Pt :=
  add (dbl (dbl (dbl (dbl acc)))) (sel b (look tb j) (neg (look tb j)))
def xoI (a b : Int) : Int := IntKind.i64.wrap ((BitVec.ofInt 64 a ^^^ BitVec.ofInt 64 b).toNat : Int)
def ob6 (tb : List Pt) (v : Int) (neg : Bool) (j : Nat) : List Prop :=
  [tb.length = 9 ∧ j < 9, Value.int .i64 (IntKind.i64.wrap (xoI v (if neg then -1 else 0) - (if neg then -1 else 0))) = Value.int .i64 (j : Int), Value.int .i64 (v.fdiv (2 ^ 63)) = Value.int .i64 (if neg then -1 else 0)]
theorem round6 (add : Pt → Pt → Pt) (dbl neg : Pt → Pt) (sel : Int → Pt → Pt → Pt) (look : List Pt → Nat → Pt) (ds : List Int) (tb : List Pt) (acc : Pt) (v : Int) (b : Bool) (j : Nat) (hj : j < 9) :
    toA Tryz.prog (spU add dbl neg sel look) ⟨false, [(45, .int .i64 (if b then -1 else 0)), (52, .int .i64 (j : Int))]⟩ 60 rf6.2 ⟨T6 v, H6 ds tb acc, []⟩ [9, 10, 12] [2, 3, 4, 7, 8, 9, 10] 11 = some (.normal, ⟨T6 v, H6 ds tb (stepM add dbl neg sel look tb acc (if b then 1 else 0) j), ob6 tb v b j⟩) := by
  cases b <;> (show toA _ _ _ _ _ _ _ _ _ = some _; kernel_rfl)
theorem ob6_met {tb : List Pt} (ht : tb.length = 9) {v : Int} (h : -8 ≤ v ∧ v ≤ 8) : Met (ob6 tb v (decide (v < 0)) v.natAbs) := by
  have hv : v = -8 ∨ v = -7 ∨ v = -6 ∨ v = -5 ∨ v = -4 ∨ v = -3 ∨ v = -2 ∨ v = -1 ∨ v = 0 ∨ v = 1 ∨ v = 2 ∨ v = 3 ∨ v = 4 ∨ v = 5 ∨ v = 6 ∨ v = 7 ∨ v = 8 := by omega
  intro p hp
  simp only [ob6, List.mem_cons, List.not_mem_nil, or_false] at hp
  rcases hp with rfl | rfl | rfl
  · exact ⟨ht, by omega⟩
  · rcases hv with rfl | rfl | rfl | rfl | rfl | rfl | rfl | rfl | rfl | rfl | rfl | rfl | rfl | rfl | rfl | rfl | rfl <;> kernel_rfl
  · rcases hv with rfl | rfl | rfl | rfl | rfl | rfl | rfl | rfl | rfl | rfl | rfl | rfl | rfl | rfl | rfl | rfl | rfl <;> kernel_rfl
def mulStep (ds : List Int) (tb : List Pt) (acc : Pt) (k : Nat) : Pt := stepM addP dblP negP selP lookP tb acc (if decide (ds.getD (112 - k) 0 < 0) then 1 else 0) (ds.getD (112 - k) 0).natAbs
def accM (ds : List Int) (tb : List Pt) (pre : List Nat) : Pt := pre.foldl (mulStep ds tb) idP
def mulP (l : List Int) (p : Pt) : Pt := accM (signedL l) (tabP idP p 9).1 (List.range 113)
/-- Digits are small. -/
def Small (ds : List Int) : Prop := ∀ k, -8 ≤ ds.getD k 0 ∧ ds.getD k 0 ≤ 8
theorem Ref.agree {w0 : Base} {ρ ρ' : Rho} {W : World} {H : View} (h : Ref w0 ρ' W H) (hk : ∀ k b, H k = some b → ρ' k = ρ k ∧ ∀ j ∈ idsA b.cs, ρ' j = ρ j) : Ref w0 ρ W H := by
  refine ⟨h.below, fun k b hb => ?_, fun k b hb ho => ?_, fun k b hb ho => ?_, fun k k' b b' hb hb' ho ho' he => ?_, h.others, fun k b hb ho => ?_, h.keep⟩
  · obtain ⟨rest, hr, hx⟩ := h.holds k b hb
    refine ⟨rest, hr, ?_⟩
    rw [← (hk k b hb).1, hx, flat_congr (ρ := ρ) (ρ' := ρ') (hk k b hb).2]
  · rw [← (hk k b hb).1]; exact h.own k b hb ho
  · rw [← (hk k b hb).1]; exact h.ext k b hb ho
  · rw [← (hk k b hb).1, ← (hk k' b' hb').1] at he; exact h.inj k k' b b' hb hb' ho ho' he
  · rw [← (hk k b hb).1]; exact h.free k b hb ho
theorem fun6 : Fun Tryz.prog 6 Tryz.f6 := ⟨Tryz.func6, by kernel_rfl, by kernel_rfl⟩
theorem mult_calls {l : List Int} (hb : Bytes256 l) (hl : l.length = 56) (hsm : Small (signedL l)) (t : TypeId) (cap : Option Nat) (p : Pt) {w : World} {ρ : Rho} (hR : Ref w ρ w (lk [some (rowBlk l t)])) :
    Calls Tryz.prog 6 (argsV ρ [.g (.a (.s 0 56 cap)), P1 p]) w fun e w' => ∃ ρ', e = .returned ((ptR (mulP l p)).val ρ') ∧ Below w.heap.size w w' := by
  refine (callsIn_wide (n := 5)).1 (callsIn_of_wp_marks fun6.at_ (c := (Tryz.f6.body).getD .skip) rfl trivial ?_ rfl)
  have hs : StOk w ρ ⟨startT Tryz.f6 [.g (.a (.s 0 56 cap)), P1 p], [some (rowBlk l t)], []⟩ _ w := ⟨bndB_spec (by kernel_rfl), startT_rel ρ Tryz.f6 [.g (.a (.s 0 56 cap)), P1 p], hR⟩
  refine wpIn_wide.2 (toS_sound (sy := false) (m := 40) (n := 6) (ts := [4, 5, 7, 9, 10]) (ks := [2, 3, 4, 7, 8, 9]) (hl := 10) (st' := ⟨mkA [(4, ptr 2), (5, ptr 3), (7, .g (.a (.s 4 113 none))), (9, ptr 8), (10, ptr 9)] 69 0, (H6 (signedL l) (tabP idP p 9).1 idP).take 10, [Bytes256 l, l.length = 56]⟩) hm spU_ok ?_ (fun q hq => ?_) hs fun ρ1 a1 w1 hρ1 s1 => (wpIn_wide (n := 5)).1 ?_)
  · kernel_rfl
  · simp only [List.mem_cons, List.not_mem_nil, or_false] at hq
    rcases hq with rfl | rfl
    · exact hb
    · exact hl
  · have hmul : mulP l p = accM (signedL l) (tabP idP p 9).1 (List.range 113) := rfl
    have h113 := signedL_len l
    have h9 := tabP_len idP p 9
    generalize signedL l = ds at *
    generalize (tabP idP p 9).1 = tb at *
    change Code.wpIn (wideR none) 5 Tryz.prog _ _ a1 w1
    rw [← wd_nil s1.rel.defers]
    refine wpIn_seq (wpIn_seq ?_)
    refine toA_in (sy := ⟨false, []⟩) (n := 20) (ts := [4, 5, 9, 10, 36]) (ks := [2, 3, 4, 7, 8, 9, 10]) (hl := 11) (ex := .normal) (st := ⟨mkA [(4, ptr 2), (5, ptr 3), (7, .g (.a (.s 4 113 none))), (9, ptr 8), (10, ptr 9)] 69 0, (H6 ds tb idP).take 10, []⟩) (st' := ⟨mkA [(4, ptr 2), (5, ptr 3), (9, ptr 8), (10, ptr 9), (36, .g (.a (.c 50 [] [10])))] 69 0, H6 ds tb idP, []⟩) hm spU_ok (by kernel_rfl) (by kernel_rfl) met0 ⟨s1.bnd, s1.rel, s1.ref⟩ fun ρ2 a2 w2 hρ2 s2 => ?_
    refine wpIn_block ?_
    have hread : ∀ W, Ref w ρ2 W (lk (H6 ds tb idP)) → True := fun _ _ => trivial
    have hQof : ∀ (W : World) (acc : Pt) (w0 : Base), Ref w0 ρ2 W (lk (H6 ds tb acc)) → Q50 ds none 57 false (fun i => ρ2 (sel2 10 4 i)) W := fun W acc w0 h k b hk => by
      match k, hk with
      | 0, hk =>
        obtain rfl := Option.some.inj hk
        obtain ⟨rest, hr, hx⟩ := h.holds 10 _ rfl
        exact ⟨⟨rest, hr, hx⟩, h.lt (k := 10) rfl⟩
      | 1, hk =>
        obtain rfl := Option.some.inj hk
        obtain ⟨rest, hr, hx⟩ := h.holds 4 _ rfl
        exact ⟨⟨rest, (fun h => by cases h), hx⟩, h.lt (k := 4) rfl⟩
    have hseq := back_stops h113 none 57 false (fun i => ρ2 (sel2 10 4 i)) 4 w2 (fun W hW => hQof W idP w (s2.ref.later hW))
    have hwB : (↑w : Base).w.heap.size ≤ w2.heap.size := s2.ref.below.size
    refine wpIn_rangeFunc_ownF (n := 5) (F := wideR none) (α := Nat) rfl (by decide) (gf := 50) (lb := #[.pointer (some ⟨(ρ2 10).1, 0, none⟩)]) (by rw [wd_eval]; exact evalT_sound s2.rel (x := .tmp 36) (v := .g (.a (.c 50 [] [10]))) rfl) trivial (fun args w => enters_of fun50.at_ fun50.name fun50.body args w) hseq
      (fun h k => fun q => k (h q)) ?_ (Below.refl _ _) (fun _ => rfl)
      (fun pre W => Ref w ρ2 W (lk (H6 ds tb (accM ds tb pre)))) (fun _ _ _ => False) (fun s W W' row h hg hr => h.ownFrom hwB hg hr) (fun c s W W' row h hg hr => h) s2.ref
      (fun k => ({ tmps := (a2.tmps.setIfInBounds 37 (.int .i64 (112 - (k : Int)))).setIfInBounds 38 (.int .i64 (ds.getD (112 - k) 0)), defers := [] } : Act).put (some 12) (.int .i64 (ds.getD (112 - k) 0))) ?_ ?_ ?_ (fun _ _ _ _ _ _ hf => hf.elim)
    · intro W l' o o' _ ho hc _ hq k b hk
      obtain ⟨⟨rest, hr, hx⟩, hlt⟩ := hq k b hk
      refine ⟨⟨rest, hr, ?_⟩, by rw [World.putObj_size]; exact hlt⟩
      rw [World.putObj_heap_other (fun e => ?_)]
      · exact hx
      · rw [e] at hx
        rw [hx] at ho
        rw [← Option.some.inj ho] at hc
        cases hc
    · intro l' k W K hK
      have hf : (#[37, 38].zip (enc50 ds k)).foldl (fun t (p, v) => t.setIfInBounds p v) (wd [] a2).tmps = (a2.tmps.setIfInBounds 37 (.int .i64 (112 - (k : Int)))).setIfInBounds 38 (.int .i64 (ds.getD (112 - k) 0)) := by
        show (#[37, 38].zip (enc50 ds k)).foldl (fun t (p, v) => t.setIfInBounds p v) a2.tmps = _
        generalize a2.tmps = tt
        unfold enc50
        simp
      rw [hf]
      refine wpIn_region ?_
      show wpOpsIn _ _ _ _ _ [0] _ _
      unfold wpOpsIn
      refine ⟨fun _ _ => trivial, ?_⟩
      rw [Oper.semAt_eq _ _ _ (isDefer_spec rfl)]
      have h69 : a2.tmps.size = 69 := s2.rel.size
      have hv : (Act.eval { tmps := (a2.tmps.setIfInBounds 37 (.int .i64 (112 - (k : Int)))).setIfInBounds 38 (.int .i64 (ds.getD (112 - k) 0)), defers := [] } (.tmp 38)) = .int .i64 (ds.getD (112 - k) 0) := by
        show ((a2.tmps.setIfInBounds 37 _).setIfInBounds 38 _).getD 38 undef = _
        rw [Array.getD_eq_getD_getElem?, Array.getElem?_setIfInBounds_self_of_lt (by simp [h69])]
        rfl
      change K (Act.put _ (some 12) (Act.eval _ (.tmp 38))) W
      rw [hv]
      exact hK
    · intro l' pre k W hI hk
      have sA : StOk ((↑w : Base).at_ W hI.both) ρ2 ⟨mkA [(9, ptr 8), (10, ptr 9)] 69 0, H6 ds tb (accM ds tb pre), []⟩ a2 W := by
        generalize accM ds tb pre = acc at *
        refine ⟨bndB_spec (by kernel_rfl), ⟨s2.rel.size, s2.rel.defers, fun t u hu => ?_⟩, hI.rebase⟩
        have e : (mkA [(9, ptr 8), (10, ptr 9)] 69 0 : List (Option AV)) = maskAt 0 (mkA [(4, ptr 2), (5, ptr 3), (9, ptr 8), (10, ptr 9), (36, .g (.a (.c 50 [] [10])))] 69 0) [9, 10] := by kernel_rfl
        exact s2.rel.at_ t u (lk_maskAt _ 0 t [9, 10] u (by rw [← e]; exact hu))
      have sB := ((sA.putV (d := 37) (show 37 < 69 by decide) (v := .int .i64 (112 - (k : Int)))).putV (d := 38) (show 38 < 69 by decide) (v := .int .i64 (ds.getD (112 - k) 0))).putV (d := 12) (show 12 < 69 by decide) (v := .int .i64 (ds.getD (112 - k) 0))
      have hds := hsm (112 - k)
      have hacc : accM ds tb (pre ++ [k]) = stepM addP dblP negP selP lookP tb (accM ds tb pre) (if decide (ds.getD (112 - k) 0 < 0) then 1 else 0) (ds.getD (112 - k) 0).natAbs := by
        unfold accM; rw [List.foldl_append]; rfl
      have hob := ob6_met h9 hds
      have hr6 := round6 addP dblP negP selP lookP ds tb (accM ds tb pre) (ds.getD (112 - k) 0) (decide (ds.getD (112 - k) 0 < 0)) (ds.getD (112 - k) 0).natAbs (by omega)
      have sD : StOk ((↑w : Base).at_ W hI.both) ρ2 ⟨T6 (ds.getD (112 - k) 0), H6 ds tb (accM ds tb pre), []⟩ (((a2.put (some 37) (.int .i64 (112 - (k : Int)))).put (some 38) (.int .i64 (ds.getD (112 - k) 0))).put (some 12) (.int .i64 (ds.getD (112 - k) 0))) W := by
        generalize ds.getD (112 - k) 0 = v at sB ⊢
        generalize accM ds tb pre = acc at *
        exact sB.cut (ts := [9, 10, 12]) (ks := [2, 3, 4, 7, 8, 9, 10]) (hl := 11) (by kernel_rfl)
      change Code.wpIn (wideR (some l')) 3 Tryz.prog _ _ (wd [] (((a2.put (some 37) (.int .i64 (112 - (k : Int)))).put (some 38) (.int .i64 (ds.getD (112 - k) 0))).put (some 12) (.int .i64 (ds.getD (112 - k) 0)))) W
      refine toA_in hm spU_ok (by kernel_rfl) hr6 hob sD fun ρ' a' W' hag s' => ?_
      have hR2 : Ref ((↑w : Base).at_ W hI.both) ρ2 W' (lk (H6 ds tb (accM ds tb (pre ++ [k])))) := by
        rw [hacc]
        exact s'.ref.agree (fun i b hi => ⟨hag i (show i < 11 from lk_lt hi), fun j hj => hag j (show j < 11 from s'.bnd.hv i b hi j hj)⟩)
      exact ⟨hR2.others, fun _ => hQof W' _ _ hR2, hI.unbase hR2⟩
    · intro D xs W hD hxs hI hdef
      subst hxs
      rw [hmul]
      generalize accM ds tb (List.range 113) = acc at *
      have sE : StOk ((↑w : Base).at_ W hI.both) ρ2 ⟨mkA [(4, ptr 2), (5, ptr 3), (9, ptr 8), (10, ptr 9), (36, .g (.a (.c 50 [] [10])))] 69 0, H6 ds tb acc, []⟩ a2 W := ⟨bndB_spec (by kernel_rfl), s2.rel, hI.rebase⟩
      change Code.wpIn (wideR none) 5 Tryz.prog _ _ (wd [{ target := .collected D, args := #[] }] a2) W
      refine toA_in (sy := ⟨false, []⟩) (n := 20) (ts := [4, 5]) (ks := [2, 3]) (hl := 4) (ex := .ret) (st' := ⟨mkA [(4, ptr 2), (5, ptr 3)] 69 0, mkA [(2, (⟨ptC acc, 31, false, true⟩ : Blk)), (3, ⟨[.v (.int .i64 0)], 35, false, true⟩)] 4 0, []⟩) hm spU_ok (by kernel_rfl) (by kernel_rfl) met0 sE fun ρ3 a3 W3 hρ3 s3 => ?_
      have hdef3 := s3.ref.others.same D _ hdef rfl
      have hR4 : Ref w ρ3 (W3.putObj D (.deferred none)) (lk (mkA [(2, (⟨ptC acc, 31, false, true⟩ : Blk)), (3, ⟨[.v (.int .i64 0)], 35, false, true⟩)] 4 0)) :=
        (hI.unbase s3.ref).ownFrom hwB (grownBy_putObj' W3 D _) (fun r e => by cases e; exact ⟨hD, _, hdef3, rfl⟩)
      refine ⟨by simp, .inl ⟨D, _, rfl, run_takeDeferred hdef3, ?_⟩⟩
      have s4 : StOk w ρ3 ⟨mkA [(4, ptr 2), (5, ptr 3)] 69 0, mkA [(2, (⟨ptC acc, 31, false, true⟩ : Blk)), (3, ⟨[.v (.int .i64 0)], 35, false, true⟩)] 4 0, []⟩ a3 (W3.putObj D (.deferred none)) := ⟨s3.bnd, s3.rel, hR4⟩
      exact ⟨_, results_sound (P := Tryz.prog) s4 (fn := Tryz.f6) (l := [.agg (ptC acc), .a (.v (.int .i64 0))]) (by kernel_rfl), ρ3, rfl, hR4.below⟩
end Go.Proofs.YtkiaodihfofbnaaGreatDoor.X
namespace Go.Proofs.YtkiaodihfofbnaaGreatDoor.X
open Go Go.RowKit
set_option maxRecDepth 100000

theorem bitI_range (l : List Int) (m : Int) : bitI l m = 0 ∨ bitI l m = 1 := by
  unfold bitI; cases tbit l m.toNat <;> simp
theorem win_range (l : List Int) (n : Nat) : 0 ≤ win l n ∧ win l n ≤ 15 := by
  unfold win
  have h0 := bitI_range l n
  have h1 := bitI_range l (n + 1 : Nat)
  have h2 := bitI_range l (n + 2 : Nat)
  have h3 := bitI_range l (n + 3 : Nat)
  omega
theorem plainL_get (l : List Int) {i : Nat} (hi : i < 112) : (plainL l 112).getD i 0 = win l (4 * i) := by
  unfold plainL
  rw [List.getD_eq_getElem?_getD, List.getElem?_map, List.getElem?_range hi, Option.map_some, Option.getD_some]
  have e : 4 * (i : Int) = ((4 * i : Nat) : Int) := by omega
  rw [e, winW_eq l (4 * i) (by omega)]
theorem step_small {v : Int} (h : 0 ≤ v ∧ v ≤ 16) : (cyW v = 0 ∨ cyW v = 1) ∧ -8 ≤ IntKind.i64.wrap (v - IntKind.i64.wrap (cyW v * 2 ^ 4)) ∧ IntKind.i64.wrap (v - IntKind.i64.wrap (cyW v * 2 ^ 4)) ≤ 8 ∧ v = IntKind.i64.wrap (v - IntKind.i64.wrap (cyW v * 2 ^ 4)) + 16 * cyW v := by
  have hv : v = 0 ∨ v = 1 ∨ v = 2 ∨ v = 3 ∨ v = 4 ∨ v = 5 ∨ v = 6 ∨ v = 7 ∨ v = 8 ∨ v = 9 ∨ v = 10 ∨ v = 11 ∨ v = 12 ∨ v = 13 ∨ v = 14 ∨ v = 15 ∨ v = 16 := by omega
  rcases hv with rfl | rfl | rfl | rfl | rfl | rfl | rfl | rfl | rfl | rfl | rfl | rfl | rfl | rfl | rfl | rfl | rfl <;> decide
theorem sgS_small (l : List Int) : ∀ i, i ≤ 112 → ((sgS (plainL l 112) i).2 = 0 ∨ (sgS (plainL l 112) i).2 = 1) ∧ ∀ x ∈ (sgS (plainL l 112) i).1, -8 ≤ x ∧ x ≤ 8
  | 0, _ => ⟨.inl rfl, fun x hx => by cases hx⟩
  | i + 1, hi => by
    obtain ⟨h1, h2⟩ := sgS_small l i (by omega)
    have hw := win_range l (4 * i)
    rw [← plainL_get l (show i < 112 by omega)] at hw
    have hv : IntKind.i64.wrap ((plainL l 112).getD i 0 + (sgS (plainL l 112) i).2) = (plainL l 112).getD i 0 + (sgS (plainL l 112) i).2 := wrap_in (by omega)
    have hs := step_small (v := (plainL l 112).getD i 0 + (sgS (plainL l 112) i).2) (by omega)
    rw [sgS]
    simp only [hv]
    refine ⟨hs.1, fun x hx => ?_⟩
    rcases List.mem_append.1 hx with hx | hx
    · exact h2 x hx
    · rw [List.mem_singleton.1 hx]; exact ⟨hs.2.1, hs.2.2.1⟩
theorem signedL_small (l : List Int) : Small (signedL l) := fun k => by
  obtain ⟨h1, h2⟩ := sgS_small l 112 (Nat.le_refl _)
  rw [List.getD_eq_getElem?_getD]
  cases hk : (signedL l)[k]? with
  | none => exact ⟨by decide, by decide⟩
  | some x =>
    have hx := List.mem_of_getElem? hk
    unfold signedL at hx
    rcases List.mem_append.1 hx with hx | hx
    · exact h2 x hx
    · rw [Option.getD_some, List.mem_singleton.1 hx]; omega
def e6 (mul : List Int → Pt → Pt) : Ent := ⟨6, fun args V _ => match args with
  | [.g (.a (.s k 56 _)), .g (.agg [.e x, .e y, .e z])] => match rowV V 56 k with
    | some (l, ob) => some ⟨ptR (mul l (x, y, z)), [], Bytes256 l :: ob⟩
    | none => none
  | _ => none⟩
theorem e6_ok : EntOk Tryz.prog (e6 mulP) := fun args V kn o ho hob w0 ρ w H hR hV g1 g2 g3 => by
  unfold e6 at ho
  simp only at ho
  split at ho
  · rename_i k cap x y z
    split at ho
    · rename_i l ob hl
      obtain rfl := Option.some.inj ho
      have h256 : Bytes256 l := hob _ (List.mem_cons_self ..)
      obtain ⟨b, hk, h56, hfl⟩ := rowV_spec hl (fun p hp => hob p (List.mem_cons_of_mem _ hp))
      refine does_ref hR ?_
      have hh : ∀ i b', lk [some (rowBlk l b.t)] i = some b' → Holds (fun _ => ρ k) w i b' ∧ (ρ k).1 < w.heap.size := fun i b' hi => by
        match i, hi with
        | 0, hi => obtain rfl := Option.some.inj hi; exact row_holds hR (hV _ _ hk) hfl (fun _ => ρ k) 0 rfl
      have h := does_of (ρ := ρ) fun6 rfl (mult_calls h256 h56 (signedL_small l) b.t cap (x, y, z) (read_ref (w := w) (ρ := fun _ => ρ k) rfl hh))
      show Does Tryz.prog 6 (argsV ρ [.g (.a (.s k 56 cap)), P1 (x, y, z)]) w fun v w' => v = (ptR (mulP l (x, y, z))).val ρ ∧ Below w.heap.size w w'
      generalize mulP l (x, y, z) = q at h ⊢
      exact h
    · cases ho
  · cases ho
end Go.Proofs.YtkiaodihfofbnaaGreatDoor.X
namespace Go.Proofs.YtkiaodihfofbnaaGreatDoor.X
open Go Go.RowKit
set_option maxRecDepth 100000

theorem fun20 : Fun Tryz.prog 20 Tryz.f20 := ⟨Tryz.func20, by kernel_rfl, by kernel_rfl⟩
theorem clone_calls {l : List Int} (hl : l.length = 56) (t : TypeId) (cap : Option Nat) {w : World} {ρ : Rho} (hR : Ref w ρ w (lk [some (rowBlk l t)])) :
    Calls Tryz.prog 20 (argsV ρ [.g (.a (.s 0 56 cap))]) w fun e w' => ∃ ρ', e = .returned ((rowS 1 56).val ρ') ∧ Ref w ρ' w' (lk [none, some (⟨[.r .u8 l], 5, true, true⟩ : Blk)]) := by
  refine fun_wp (H := [some (rowBlk l t)]) fun20.at_ (c := (Tryz.f20.body).getD .skip) rfl (by kernel_rfl) hR fun a hs => ?_
  refine toS_sound (sy := false) (m := 20) (n := 1) (ts := [0]) (ks := [0]) (hl := 1) (st' := ⟨mkA [(0, .g (.a (.s 0 56 cap)))] 8 0, [some (rowBlk l t)], []⟩) hm spOk_nil (by kernel_rfl) met0 hs fun ρ1 a1 w1 _ s1 => ?_
  refine wp_seq (wp_seq ?_)
  refine region_op (sy := false) spOk_nil 1 rfl rfl (T1 := mkA [(0, .g (.a (.s 0 56 cap))), (3, .g (.a (.s 0 56 cap)))] 8 0) (H1 := [some (rowBlk l t)]) (O1 := []) (by kernel_rfl) met0 s1 fun ρ2 a2 w2 _ s2 => ?_
  have e3 : a2.eval (.tmp 3) = .slice (some ⟨(ρ2 0).1, 0, none⟩) 56 (cap.getD (ρ2 0).2) := evalT_sound s2.rel (x := .tmp 3) (v := .g (.a (.s 0 56 cap))) rfl
  refine wp_value (v := .bool false) (w' := w2) ?_ ?_
  · have hp : ∀ (ad : Addr) (n c : Nat), prun Tryz.prog (do eqGuard .eql 34 (.tmp 3) (.const (.slice none 0 0)) (.slice (some ad) n c) (.slice none 0 0); binOp .eql 34 (.slice (some ad) n c) (.slice none 0 0)) = some (.bool false) := fun ad n c => by kernel_rfl
    have h := prun_run (hp ⟨(ρ2 0).1, 0, none⟩ 56 (cap.getD (ρ2 0).2)) w2
    rw [← e3] at h
    exact (run_ok h).trans rfl
  · refine restA_sound (sy := false) (q := 2) (ts := [0, 4]) (ks := [0]) (hl := 1) (st' := ⟨mkA [(0, .g (.a (.s 0 56 cap))), (4, B1 false)] 8 0, [some (rowBlk l t)], []⟩) spOk_nil (by kernel_rfl) met0 (s2.putV (d := 4) (show 4 < 8 by decide) (v := .bool false)) fun ρ3 a3 w3 hρ3 s3 => ?_
    refine toA_sound (sy := false) (n := 20) (ts := [0]) (ks := [0]) (hl := 2) (ex := .normal) (st' := ⟨mkA [(0, .g (.a (.s 0 56 cap)))] 8 0, [some (rowBlk l t)], []⟩) hm spOk_nil (by kernel_rfl) met0 s3 fun ρ4 a4 w4 hρ4 s4 => ?_
    have s5 : StOk w ρ4 ⟨mkA [(0, .g (.a (.s 0 56 cap)))] 8 0, [some (rowBlk l t), none], []⟩ a4 w4 := by
      refine ⟨bndB_spec (by kernel_rfl), s4.rel, s4.ref.less fun k b' hk => ?_⟩
      match k, hk with
      | 0, hk => exact ⟨b', hk, rfl, id⟩
      | 1, hk => cases hk
    refine wp_seq ?_
    refine region_append spOk_nil (rwI .u8) rwT34 2 (s := 5) (x := 6) (d := 7) (k := 1) (sy := false)
      (T1 := mkA [(0, .g (.a (.s 0 56 cap))), (5, .g (.a (.s 2 0 (some 0)))), (6, .g (.a (.s 0 56 cap)))] 8 0)
      (H1 := [some (rowBlk l t), none, some ⟨[], 5, false, true⟩]) (O1 := []) rfl rfl rfl rfl (by kernel_rfl) met0
      (n := 0) (m := 56) (l := []) (ns := l) rfl hl (by decide) s5 (.inr (.inl ⟨some 0, 2, rfl, rfl, rfl⟩)) (kb := 0) (c := cap) rfl rfl (fun ρ => ⟨[], by
        have := (rwI .u8).cells ρ l
        show flat ρ [.r .u8 l] = _
        rw [List.append_nil, ← this]
        simp [flat, rwI]⟩) (by kernel_rfl) (by decide) (by decide) fun sp' ρ6 a6 w6 hc6 _ s6 => ?_
    refine restA_sound (sy := false) (ts := [2]) (ks := [1]) (hl := 2) (st' := ⟨mkA [(2, rowS 1 56)] 8 0, [none, some (blk2 (rwI .u8) 5 l sp')], []⟩) spOk_nil (by kernel_rfl) met0 s6 fun ρ7 a7 w7 hρ7 s7 => ?_
    refine wp_ret ?_
    refine fun_end s7 (l := [.a (.s 1 56 none)]) (by kernel_rfl) ⟨ρ7, rfl, s7.ref.less fun k b' hk => ?_⟩ (.inl rfl)
    match k, hk with
    | 1, hk =>
      obtain rfl := Option.some.inj hk
      exact ⟨_, rfl, rfl, holds_row⟩
end Go.Proofs.YtkiaodihfofbnaaGreatDoor.X
