/- X448 of a secret number and a point's u is the u of that number times the point (the law TopCurves): part 14 of 22 of its proof: the noted ladder, awake, TopCurves walked. No condition. -/
import Derived.Test.YtkiaodihfofbnaaGreatDoorM12
import Derived.Laws.MakeOwn
set_option linter.unusedVariables false
set_option linter.unusedSimpArgs false
namespace Go.Proofs.YtkiaodihfofbnaaGreatDoor.X
open Go Go.RowKit
set_option maxRecDepth 100000

/-- No block but kt (and kr itself) names kr. -/
def freeB (H : List (Option Blk)) (ks : List Nat) (kr : Nat) : Bool := (List.range H.length).all fun k => ks.contains k || match lk H k with
  | some b => !(idsA b.cs).contains kr
  | none => true
theorem freeB_spec {H : List (Option Blk)} {ks : List Nat} {kr : Nat} (h : freeB H ks kr = true) : ∀ k b, lk H k = some b → k ∉ ks → kr ∉ idsA b.cs := fun k b hk hn => by
  have := List.all_eq_true.1 h k (List.mem_range.2 (lk_lt hk))
  rw [hk, Bool.or_eq_true] at this
  rcases this with h1 | h1
  · exact absurd (by simpa using h1) hn
  · simpa using h1
theorem tape_in {w0 : Base} {w : World} {ρ : Rho} {H : List (Option Blk)} (hR : Ref w0 ρ w (lk H)) {kt kr n : Nat} {s : At} {r : Option Blk} {l : List (Int × Int)} (ht : lk H kt = some (tpB s)) (hr : lk H kr = r) (htp : TpAt kr ρ n s r l) (hne : kt ≠ kr) (hfree : freeB H [kt, kr] kr = true) :
    ∃ (w1 : Base) (ρc : Rho) (s' : At), Ref w1 ρc w (lk [some (tpB s'), r]) ∧ TpAt 1 ρc n s' r l ∧ ρc 0 = ρ kt ∧ ∀ n' w', Tp w1 ρc n' w' →
      ∃ ρ' l' sp', (∀ j, j ≠ kr → ρ' j = ρ j) ∧ List.length (α := Int × Int) l' = n' ∧ (ρ' kr).2 = n' + List.length (α := Int × Int) sp' ∧ Ref w0 ρ' w' (lk (setH H [(kt, tpB (.s kr n' none)), (kr, evB l' sp')])) := by
  have key : ∀ (s' : At), (s'.ren (sel2 kt kr) = s) → (∀ b0, r = some b0 → b0.own = true ∧ b0.cs.map (At.ren (sel2 kt kr)) = b0.cs) → TpAt 1 (fun i => ρ (sel2 kt kr i)) n s' r l → ((∃ v, s' = .v v) ∨ ∃ b0, r = some b0) →
      ∃ (w1 : Base) (ρc : Rho) (s' : At), Ref w1 ρc w (lk [some (tpB s'), r]) ∧ TpAt 1 ρc n s' r l ∧ ρc 0 = ρ kt ∧ ∀ n' w', Tp w1 ρc n' w' →
      ∃ ρ' l' sp', (∀ j, j ≠ kr → ρ' j = ρ j) ∧ List.length (α := Int × Int) l' = n' ∧ (ρ' kr).2 = n' + List.length (α := Int × Int) sp' ∧ Ref w0 ρ' w' (lk (setH H [(kt, tpB (.s kr n' none)), (kr, evB l' sp')])) := by
    intro s' hs' hr0 htp' _
    obtain ⟨w1, hR1, hback⟩ := frame2 hR [some (tpB s'), r] (sel2 kt kr) 1 (by show 1 < 2; decide) (fun i b0 hi => by
      match i, hi with
      | 0, hi =>
        obtain rfl := Option.some.inj hi
        exact ⟨_, ht, by show [s] = [s'.ren (sel2 kt kr)]; rw [hs'], rfl, rfl, rfl⟩
      | 1, hi =>
        have hi' : r = some b0 := hi
        refine ⟨b0, hr.trans hi', ((hr0 b0 hi').2).symm, rfl, rfl, rfl⟩) (fun h => hr.trans h) (fun b0 h => (hr0 b0 h).1) (fun i j hi hj he => by
      have hi' : i < 2 := hi
      have hj' : j < 2 := hj
      have h1 : i = 0 ∨ i = 1 := by omega
      have h2 : j = 0 ∨ j = 1 := by omega
      rcases h1 with rfl | rfl <;> rcases h2 with rfl | rfl
      · rfl
      · exact absurd he hne
      · exact absurd he.symm hne
      · rfl) (fun k b hk hn => by
      by_cases e1 : k = kt
      · exact absurd e1.symm (hn 0 _ rfl rfl)
      · by_cases e2 : k = kr
        · subst e2
          have : r = some b := hr.symm.trans hk
          exact absurd rfl (hn 1 b this (hr0 b this).1)
        · exact freeB_spec hfree k b hk (by simp [e1, e2]))
    refine ⟨w1, _, s', hR1, htp', rfl, fun n' w' ⟨ρ', l', sp', e0, el, ec, hR'⟩ => ?_⟩
    have hb := hback ρ' w' [some (tpB (.s 1 n' none)), some (evB l' sp')] hR' (by
      rcases htp' with ⟨rfl, rfl, rfl⟩ | ⟨sp, rfl, rfl, _⟩ <;> kernel_rfl) (fun i hi hne' => by
      have hi' : i < 2 := hi
      have : i = 0 := by omega
      rw [this]; exact e0)
    refine ⟨put1 ρ kr (ρ' 1).1 (ρ' 1).2, l', sp', fun j hj => put1_ne _ hj, el, ?_, ?_⟩
    · show (put1 ρ kr (ρ' 1).1 (ρ' 1).2 kr).2 = _
      rw [put1_self]; exact ec
    · rw [lk_setH]; exact hb
  rcases htp with ⟨rfl, rfl, rfl⟩ | ⟨sp, rfl, rfl, hc⟩
  · exact key (.v (.slice none 0 0)) rfl (fun b0 h => by cases h) (.inl ⟨rfl, rfl, rfl⟩) (.inl ⟨_, rfl⟩)
  · exact key (.s 1 n none) rfl (fun b0 h => by obtain rfl := Option.some.inj h; exact ⟨rfl, rfl⟩) (.inr ⟨sp, rfl, rfl, hc⟩) (.inr ⟨_, rfl⟩)
/-- An event is noted, by whoever has a tape among blocks of its own. -/
theorem note_in {w0 : Base} {w : World} {ρ : Rho} {H : List (Option Blk)} (hR : Ref w0 ρ w (lk H)) {kt kr n : Nat} {s : At} {r : Option Blk} {l : List (Int × Int)} (hl : l.length = n) (hn : n < 1000000) (ht : lk H kt = some (tpB s)) (hr : lk H kr = r) (htp : TpAt kr ρ n s r l) (hne : kt ≠ kr) (hfree : freeB H [kt, kr] kr = true) (k m : Int) :
    Calls Tryz.prog 95 #[.pointer (some ⟨(ρ kt).1, 0, none⟩), .int .i64 k, .int .i64 m] w fun e w' => e = .returned (.tuple #[]) ∧
      ∃ ρ' l' sp', (∀ j, j ≠ kr → ρ' j = ρ j) ∧ List.length (α := Int × Int) l' = n + 1 ∧ (ρ' kr).2 = n + 1 + List.length (α := Int × Int) sp' ∧ Ref w0 ρ' w' (lk (setH H [(kt, tpB (.s kr (n + 1) none)), (kr, evB l' sp')])) := by
  obtain ⟨w1, ρc, s', h1, h2, h3, h4⟩ := tape_in hR ht hr htp hne hfree
  rw [← h3]
  refine (note_calls hl hn k m h2 h1).mono ?_
  rintro e w' ⟨ρ', sp', rfl, e0, e1, e2⟩
  exact ⟨rfl, h4 (n + 1) w' ⟨ρ', l ++ [(k, m)], sp', e0, by rw [List.length_append, hl]; rfl, e1, e2⟩⟩
theorem is_in {w0 : Base} {w : World} {ρ : Rho} {H : List (Option Blk)} (hR : Ref w0 ρ w (lk H)) {kt kr n : Nat} {s : At} {r : Option Blk} {l : List (Int × Int)} (hl : l.length = n) (hn : n < 1000000) (ht : lk H kt = some (tpB s)) (hr : lk H kr = r) (htp : TpAt kr ρ n s r l) (hne : kt ≠ kr) (hfree : freeB H [kt, kr] kr = true) (b : Bool) :
    Calls Tryz.prog 70 #[.pointer (some ⟨(ρ kt).1, 0, none⟩), .bool b] w fun e w' => e = .returned (.bool b) ∧
      ∃ ρ' l' sp', (∀ j, j ≠ kr → ρ' j = ρ j) ∧ List.length (α := Int × Int) l' = n + 1 ∧ (ρ' kr).2 = n + 1 + List.length (α := Int × Int) sp' ∧ Ref w0 ρ' w' (lk (setH H [(kt, tpB (.s kr (n + 1) none)), (kr, evB l' sp')])) := by
  obtain ⟨w1, ρc, s', h1, h2, h3, h4⟩ := tape_in hR ht hr htp hne hfree
  rw [← h3]
  exact (is_calls hl hn b h2 h1).mono fun e w' ⟨e1, e2⟩ => ⟨e1, h4 (n + 1) w' e2⟩

/-! ### The ladder -/
abbrev HL (lb : List Int) (cap : Option Nat) (n : Nat) (l' sp' : List (Int × Int)) (u : El) (x z : El × El) (b : Bool) : List (Option Blk) :=
  mkA [(0, (⟨[.r .u8 lb], 5, true, true⟩ : Blk)), (1, tpB (.s 2 n none)), (2, evB l' sp'), (3, ⟨[.s 0 56 cap], 34, false, true⟩), (4, ⟨[.e u], 29, false, true⟩), (5, ⟨z8, 29, false, true⟩), (14, ⟨[.e x.1, .e x.2], 70, false, true⟩), (15, ⟨[.e z.1, .e z.2], 70, false, true⟩), (16, ⟨[.v (.int .i64 (bI b))], 3, false, true⟩), (17, ⟨[.c 96 [] [14, 15]], 125, false, true⟩)] 18 0
def J71 (w0 : Base) (ρ : Rho) (lb : List Int) (cap : Option Nat) (u : El) (i n : Nat) (W : World) : Prop :=
  ∃ ρ' l' sp', (∀ j, j < 18 → j ≠ 2 → ρ' j = ρ j) ∧ List.length (α := Int × Int) l' = n ∧ (ρ' 2).2 = n + List.length (α := Int × Int) sp' ∧ Ref w0 ρ' W (lk (HL lb cap n l' sp' u (ladS lb u i).x (ladS lb u i).z (ladS lb u i).b))
def sg98 : Nat → Nat
  | 0 => 3
  | 1 => 17
  | 2 => 16
  | 3 => 4
  | 4 => 14
  | 5 => 15
  | _ => 0
theorem sg98_at (lb : List Int) (cap : Option Nat) (n : Nat) (l' sp' : List (Int × Int)) (u : El) (x z : El × El) (b : Bool) : ∀ j b0, lk (H98 lb cap b u x z) j = some b0 → ∃ c, lk (HL lb cap n l' sp' u x z b) (sg98 j) = some c ∧ c.cs = b0.cs.map (At.ren sg98) ∧ c.t = b0.t ∧ c.opn = b0.opn ∧ c.own = b0.own := fun j b0 hj => by
  have hlt : j < 7 := lk_lt hj
  have h7 : j = 0 ∨ j = 1 ∨ j = 2 ∨ j = 3 ∨ j = 4 ∨ j = 5 ∨ j = 6 := by omega
  rcases h7 with rfl | rfl | rfl | rfl | rfl | rfl | rfl <;> (obtain rfl := Option.some.inj hj; exact ⟨_, rfl, rfl, rfl, rfl, rfl⟩)
theorem sg98_inj {j j' : Nat} (hlt : j < 7) (hlt' : j' < 7) (he : sg98 j = sg98 j') : j = j' := by
  have h7 : j = 0 ∨ j = 1 ∨ j = 2 ∨ j = 3 ∨ j = 4 ∨ j = 5 ∨ j = 6 := by omega
  have h7' : j' = 0 ∨ j' = 1 ∨ j' = 2 ∨ j' = 3 ∨ j' = 4 ∨ j' = 5 ∨ j' = 6 := by omega
  rcases h7 with rfl | rfl | rfl | rfl | rfl | rfl | rfl <;> rcases h7' with rfl | rfl | rfl | rfl | rfl | rfl | rfl <;> first | rfl | (exact absurd he (by decide))
theorem sg98_eff (lb : List Int) (cap : Option Nat) (n : Nat) (l' sp' : List (Int × Int)) (u : El) (x z x' z' : El × El) (b b' : Bool) : setH (HL lb cap n l' sp' u x z b) (effW sg98 (H98 lb cap b u x z) (H98 lb cap b' u x' z')) = HL lb cap n l' sp' u x' z' b' := by kernel_rfl
theorem sg98_ok (lb : List Int) (cap : Option Nat) (u : El) (x z x' z' : El × El) (b b' : Bool) (m : Int) : (bndB (startT Tryz.f98 [I1 .i64 m, ptr 0, ptr 1, ptr 2, ptr 3, ptr 4, ptr 5]) (H98 lb cap b u x z) && okW (H98 lb cap b u x z) (.tup []) (H98 lb cap b' u x' z')) = true := by kernel_rfl
theorem sg98_args (ρ ρ' : Rho) (hag : ∀ j, j < 18 → j ≠ 2 → ρ' j = ρ j) (m : Int) : (#[.int .i64 m] ++ #[.pointer (some ⟨(ρ 3).1, 0, none⟩), .pointer (some ⟨(ρ 17).1, 0, none⟩), .pointer (some ⟨(ρ 16).1, 0, none⟩), .pointer (some ⟨(ρ 4).1, 0, none⟩), .pointer (some ⟨(ρ 14).1, 0, none⟩), .pointer (some ⟨(ρ 15).1, 0, none⟩)] : Array Value) = argsV ρ' ([I1 .i64 m, ptr 0, ptr 1, ptr 2, ptr 3, ptr 4, ptr 5].map (AV.ren sg98)) := by
  rw [← hag 3 (by decide) (by decide), ← hag 17 (by decide) (by decide), ← hag 16 (by decide) (by decide), ← hag 4 (by decide) (by decide), ← hag 14 (by decide) (by decide), ← hag 15 (by decide) (by decide)]
  rfl
theorem do_in {w0 : Base} {ρ : Rho} {lb : List Int} (hb : Bytes256 lb) (hl : lb.length = 56) (cap : Option Nat) (u : El) (i n : Nat) (hi : i < 448) (W : World) (h : J71 w0 ρ lb cap u i n W) :
    Calls Tryz.prog 98 (#[.int .i64 (447 - (i : Int))] ++ #[.pointer (some ⟨(ρ 3).1, 0, none⟩), .pointer (some ⟨(ρ 17).1, 0, none⟩), .pointer (some ⟨(ρ 16).1, 0, none⟩), .pointer (some ⟨(ρ 4).1, 0, none⟩), .pointer (some ⟨(ρ 14).1, 0, none⟩), .pointer (some ⟨(ρ 15).1, 0, none⟩)]) W fun e W' => e = .returned (.tuple #[]) ∧ J71 w0 ρ lb cap u (i + 1) n W' := by
  obtain ⟨ρ', l', sp', hag, hln, hc, hR⟩ := h
  have e : ladS lb u (i + 1) = ⟨stepX (swE (bI (tbit lb (447 - i) != (ladS lb u i).b)) (ladS lb u i).x) (swE (bI (tbit lb (447 - i) != (ladS lb u i).b)) (ladS lb u i).z), stepZ u (swE (bI (tbit lb (447 - i) != (ladS lb u i).b)) (ladS lb u i).x) (swE (bI (tbit lb (447 - i) != (ladS lb u i).b)) (ladS lb u i).z), tbit lb (447 - i)⟩ := rfl
  unfold J71
  rw [e]
  generalize ladS lb u i = s at hR ⊢
  have em : (447 - (i : Int)) = ((447 - i : Nat) : Int) := by omega
  rw [em]
  have hbit : bitI lb ((447 - i : Nat) : Int) = bI (tbit lb (447 - i)) := rfl
  have hmet : Met [Value.int .i64 (bitI lb ((447 - i : Nat) : Int)) = Value.int .i64 (bI (tbit lb (447 - i))), Bytes256 lb, 0 ≤ ((447 - i : Nat) : Int) ∧ ((447 - i : Nat) : Int) < 448, lb.length = 56] := fun p hp => by
    simp only [List.mem_cons, List.not_mem_nil, or_false] at hp
    rcases hp with rfl | rfl | rfl | rfl
    · rw [hbit]
    · exact hb
    · omega
    · exact hl
  have hrun := run98 swE stepX stepZ lb cap s.b (tbit lb (447 - i)) u s.x s.z ((447 - i : Nat) : Int)
  generalize tbit lb (447 - i) = b at hrun hmet ⊢
  generalize stepX (swE (bI (b != s.b)) s.x) (swE (bI (b != s.b)) s.z) = x' at hrun ⊢
  generalize stepZ u (swE (bI (b != s.b)) s.x) (swE (bI (b != s.b)) s.z) = z' at hrun ⊢
  generalize s.b = sb at hrun hR
  generalize ((447 - i : Nat) : Int) = m at hrun hmet ⊢
  have h := write_calls (args0 := [I1 .i64 m, ptr 0, ptr 1, ptr 2, ptr 3, ptr 4, ptr 5]) (H0 := H98 lb cap sb u s.x s.z) (r := .tup []) (H1 := H98 lb cap b u x' z') hm sp98_ok fun98 _ 60 hrun hmet (sg98_ok lb cap u s.x s.z x' z' sb b m) sg98 hR (sg98_at lb cap n l' sp' u s.x s.z sb) (fun j j' b1 b2 hj hj' _ _ he => sg98_inj (lk_lt hj) (lk_lt hj') he)
  rw [sg98_args ρ ρ' hag m]
  refine h.mono ?_
  rintro e' W' ⟨rfl, hR'⟩
  refine ⟨rfl, ρ', l', sp', hag, hln, hc, ?_⟩
  rw [← lk_setH, sg98_eff] at hR'
  exact hR'
end Go.Proofs.YtkiaodihfofbnaaGreatDoor.X
namespace Go.Proofs.YtkiaodihfofbnaaGreatDoor.X
open Go Go.RowKit
set_option maxRecDepth 100000

theorem run_bound {P : Program} (a : Act) (w : World) (fn : FuncId) (x : Operand) (d : Option Tmp) (t : TypeId) (pos : String) (after : Array Edge) (g : Option (Nat × Bool)) : (execOp a.eval ⟨d, .makeFunc (.func fn) #[x] #[], t, pos, after, g⟩).run P w = .ok (.value (.func (.func fn) #[a.eval x] #[])) w := by
  simp only [execOp]
  have e1 : (#[x] : Array Operand).map a.eval = #[a.eval x] := by simp
  have e2 : (#[] : Array Operand).map a.eval = #[] := by simp
  rw [e1, e2]
  exact (run_ok (s := Instr.makeFunc (.func fn) #[a.eval x] #[]) (a := Value.func (.func fn) #[a.eval x] #[]) (w' := w) rfl).trans rfl
theorem fun71 : Fun Tryz.prog 71 Tryz.f71 := ⟨Tryz.func71, by kernel_rfl, by kernel_rfl⟩
def sp71 (sw : Int → El × El → El × El) (mul : El → El → El) (inv : El → El) : Sp :=
  spOf [e30, e96 sw, ent2 33 pE pE fun x y => E1 (mul x y), ent1 34 pE fun x => E1 (inv x)]
theorem sp71_ok : SpOk Tryz.prog (sp71 swE mulE invE) := spOk_cons e30_ok (spOk_cons e96_ok (spOk_cons e33_ok (spOk_cons e34_ok spOk_nil)))
noncomputable def ops71 : Array Oper := match tailS 5 ((Tryz.f71.body).getD .skip) with
  | .seq (.region _ ops _) _ => ops
  | _ => #[]
abbrev T71 : List (Option AV) := mkA [(0, ptr 1), (4, ptr 3), (5, ptr 4), (6, ptr 5), (9, ptr 14), (10, ptr 15), (11, ptr 16), (12, ptr 17)] 38 0
abbrev H71 (lb : List Int) (n : Nat) (l sp : List (Int × Int)) : List (Option Blk) := [some ⟨[.r .u8 lb], 5, true, true⟩, some (tpB (.s 2 n none)), some (evB l sp)]
theorem begin71 (lb : List Int) (cap : Option Nat) (n : Nat) (l sp : List (Int × Int)) (u : El) (sw : Int → El × El → El × El) (mul : El → El → El) (inv : El → El) :
    toS Tryz.prog (sp71 sw mul inv) false 20 5 ((Tryz.f71.body).getD .skip) ⟨startT Tryz.f71 [ptr 1, .g (.a (.s 0 56 cap)), E1 u], H71 lb n l sp, []⟩ [0, 4, 5, 6, 9, 10, 11, 12] [0, 1, 2, 3, 4, 5, 14, 15, 16, 17] 18 = some ⟨T71, HL lb cap n l sp u (E1', u) (E0, E1') false, []⟩ := by
  show toS _ _ _ _ _ _ _ _ _ _ = some _; kernel_rfl
theorem pre71 (lb : List Int) (cap : Option Nat) (n : Nat) (l sp : List (Int × Int)) (u : El) (x z : El × El) :
    runSeq Tryz.prog (spOf []) false ops71.toList (ops71.toList.take 4) T71 (HL lb cap n l sp u x z false) [] = some (mkA [(0, ptr 1), (4, ptr 3), (5, ptr 4), (6, ptr 5), (9, ptr 14), (10, ptr 15), (11, ptr 16), (12, ptr 17), (22, .g (.a (.s 0 56 cap))), (23, I1 .i64 56), (24, I1 .i64 448), (25, ptr 1)] 38 0, HL lb cap n l sp u x z false, []) := by
  show runSeq _ _ _ _ _ _ _ _ = some _; kernel_rfl
theorem mid71 (lb : List Int) (cap : Option Nat) (n : Nat) (l sp : List (Int × Int)) (u : El) (x z : El × El) (v : Value) :
    runSeq Tryz.prog (spOf []) false ops71.toList ((ops71.toList.drop 5).take 1) (mkA [(0, ptr 1), (4, ptr 3), (5, ptr 4), (6, ptr 5), (9, ptr 14), (10, ptr 15), (11, ptr 16), (12, ptr 17), (24, I1 .i64 448), (26, vV v)] 38 0) (HL lb cap n l sp u x z false) [] = some (mkA [(0, ptr 1), (4, ptr 3), (5, ptr 4), (6, ptr 5), (9, ptr 14), (10, ptr 15), (11, ptr 16), (12, ptr 17), (24, I1 .i64 448), (26, vV v), (27, .g (.a (.c 98 [] [3, 17, 16, 4, 14, 15])))] 38 0, HL lb cap n l sp u x z false, []) := by
  show runSeq _ _ _ _ _ _ _ _ = some _; kernel_rfl
theorem last71 (lb : List Int) (cap : Option Nat) (n : Nat) (l sp : List (Int × Int)) (u : El) (x z : El × El) (b : Bool) (sw : Int → El × El → El × El) (mul : El → El → El) (inv : El → El) (v : Value) :
    toA Tryz.prog (sp71 sw mul inv) false 20 (tailS 6 ((Tryz.f71.body).getD .skip)) ⟨mkA [(0, ptr 1), (4, ptr 3), (5, ptr 4), (6, ptr 5), (9, ptr 14), (10, ptr 15), (11, ptr 16), (12, ptr 17), (28, vV v)] 38 0, HL lb cap n l sp u x z b, []⟩ [6] [0, 1, 2, 5] 6 =
      some (.ret, ⟨mkA [(6, ptr 5)] 38 0, mkA [(0, (⟨[.r .u8 lb], 5, true, true⟩ : Blk)), (1, tpB (.s 2 n none)), (2, evB l sp), (5, ⟨[.e (mul (sw (bI (false != b)) x).1 (inv (sw (bI (false != b)) z).1))], 29, false, true⟩)] 6 0, []⟩) := by
  cases b <;> (show toA _ _ _ _ _ _ _ _ _ = some _; kernel_rfl)
theorem ladder71_calls {w0 : Base} {w : World} {ρ : Rho} {lb : List Int} (hb : Bytes256 lb) (hl : lb.length = 56) (cap : Option Nat) (u : El) {n : Nat} (hn : n < 100) {l sp : List (Int × Int)} (hln : l.length = n) (hc : (ρ 2).2 = n + sp.length) (hR : Ref w0 ρ w (lk (H71 lb n l sp))) :
    Calls Tryz.prog 71 (argsV ρ [ptr 1, .g (.a (.s 0 56 cap)), E1 u]) w fun e w' => e = .returned ((E1 (ladE lb u)).val ρ) ∧
      ∃ ρ' l' sp', ρ' 0 = ρ 0 ∧ ρ' 1 = ρ 1 ∧ List.length (α := Int × Int) l' = n + 449 ∧ (ρ' 2).2 = n + 449 + List.length (α := Int × Int) sp' ∧ Ref w0 ρ' w' (lk (H71 lb (n + 449) l' sp')) := by
  refine fun_wp (H := H71 lb n l sp) fun71.at_ (c := (Tryz.f71.body).getD .skip) rfl (by kernel_rfl) hR fun a hs => ?_
  refine toS_sound hm sp71_ok (begin71 lb cap n l sp u swE mulE invE) met0 hs fun ρ1 a1 w1 hag1 s1 => ?_
  refine wp_seq ?_
  change (Code.region _ ops71 false).wp _ _ _ _
  refine region_op (sy := false) spOk_nil 4 rfl rfl (pre71 lb cap n l sp u (E1', u) (E0, E1')) met0 s1 fun ρ2 a2 w2 hag2 s2 => ?_
  have e25 : a2.eval (.tmp 25) = .pointer (some ⟨(ρ2 1).1, 0, none⟩) := evalT_sound s2.rel (x := .tmp 25) (v := ptr 1) rfl
  refine wp_value (v := .func (.func 95) #[.pointer (some ⟨(ρ2 1).1, 0, none⟩)] #[]) (w' := w2) (by rw [← e25]; exact run_bound ..) ?_
  have hvn : ∃ v, v = Value.func (.func 95) #[.pointer (some ⟨(ρ2 1).1, 0, none⟩)] #[] := ⟨_, rfl⟩
  obtain ⟨vn, hvn⟩ := hvn
  rw [← hvn]
  have s3 := (s2.putV (d := 26) (show 26 < 38 by decide) (v := vn)).cut (ts := [0, 4, 5, 6, 9, 10, 11, 12, 24, 26]) (ks := [0, 1, 2, 3, 4, 5, 14, 15, 16, 17]) (hl := 18) (by kernel_rfl)
  have s3' : StOk w0 ρ2 ⟨mkA [(0, ptr 1), (4, ptr 3), (5, ptr 4), (6, ptr 5), (9, ptr 14), (10, ptr 15), (11, ptr 16), (12, ptr 17), (24, I1 .i64 448), (26, vV vn)] 38 0, HL lb cap n l sp u (E1', u) (E0, E1') false, []⟩ (a2.put (some 26) vn) w2 := s3
  refine rest_op (sy := false) spOk_nil 5 6 (by decide) rfl rfl (mid71 lb cap n l sp u (E1', u) (E0, E1') vn) met0 s3' fun ρ4 a4 w4 hag4 s4 => ?_
  have g1 : ρ4 1 = ρ2 1 := hag4 1 (by show 1 < 18; decide)
  rw [← g1] at hvn
  refine call_wp rfl s4.rel (xf := .g (.a (.v (.func (.func 97) #[] #[])))) (xargs := [I1 .i64 448, vV vn, .g (.a (.c 98 [] [3, 17, 16, 4, 14, 15]))]) rfl rfl (g := 97) (first := []) (caps := []) rfl fun97 ?_
  have hargs : argsV ρ4 ([] ++ [I1 .i64 448, vV vn, .g (.a (.c 98 [] [3, 17, 16, 4, 14, 15]))] ++ []) = #[.int .i64 448, .func (.func 95) #[.pointer (some ⟨(ρ4 1).1, 0, none⟩)] #[], .func (.func 98) #[] #[.pointer (some ⟨(ρ4 3).1, 0, none⟩), .pointer (some ⟨(ρ4 17).1, 0, none⟩), .pointer (some ⟨(ρ4 16).1, 0, none⟩), .pointer (some ⟨(ρ4 4).1, 0, none⟩), .pointer (some ⟨(ρ4 14).1, 0, none⟩), .pointer (some ⟨(ρ4 15).1, 0, none⟩)]] := by
    rw [hvn]; rfl
  rw [hargs]
  have hj0 : J71 w0 ρ4 lb cap u 0 n w4 := ⟨ρ4, l, sp, fun _ _ _ => rfl, hln, by
    rw [hag4 2 (by show 2 < 18; decide), hag2 2 (by show 2 < 18; decide), hag1 2 (by show 2 < 3; decide)]; exact hc, s4.ref⟩
  refine (down_calls _ _ (J71 w0 ρ4 lb cap u) (fun i n W W' ⟨ρ', l', sp', e1, e2, e3, e4⟩ hbl => ⟨ρ', l', sp', e1, e2, e3, e4.later hbl⟩) (fun i n W k m hi hn' ⟨ρ', l', sp', e1, e2, e3, e4⟩ => ?_) (fun i n W hi hJ => do_in hb hl cap u i n hi W hJ) hn hj0).mono ?_
  · rw [← e1 1 (by decide) (by decide)]
    generalize hsL : ladS lb u i = s at e4
    refine (note_in e4 (kt := 1) (kr := 2) e2 (by omega) rfl rfl (.inr ⟨sp', rfl, rfl, e3⟩) (by decide) (by kernel_rfl) k m).mono ?_
    rintro e W' ⟨rfl, ρ'', l'', sp'', q1, q2, q3, q4⟩
    refine ⟨rfl, ρ'', l'', sp'', fun j hj hne => (q1 j hne).trans (e1 j hj hne), q2, q3, ?_⟩
    have hset : setH (HL lb cap n l' sp' u s.x s.z s.b) [(1, tpB (.s 2 (n + 1) none)), (2, evB l'' sp'')] = HL lb cap (n + 1) l'' sp'' u s.x s.z s.b := by kernel_rfl
    rw [hset, ← hsL] at q4
    exact q4
  · rintro e W' ⟨rfl, ρ', l', sp', e1, e2, e3, e4⟩
    refine ⟨_, rfl, ?_⟩
    have hE : ladE lb u = mulE (swE (bI (false != (ladS lb u 448).b)) (ladS lb u 448).x).1 (invE (swE (bI (false != (ladS lb u 448).b)) (ladS lb u 448).z).1) := rfl
    rw [hE]
    generalize ladS lb u 448 = s at *
    obtain ⟨x, z, b⟩ := s
    simp only at e4 ⊢
    have s5 := s4.moved (ρ' := ρ') (w' := W') (d := 28) (v := vV (.tuple #[])) 2 (fun j hj hne => e1 j hj hne) e4 (by kernel_rfl)
    have s6 := s5.cut (ts := [0, 4, 5, 6, 9, 10, 11, 12, 28]) (ks := [0, 1, 2, 3, 4, 5, 14, 15, 16, 17]) (hl := 18) (by kernel_rfl)
    have s7 : StOk w0 ρ' ⟨mkA [(0, ptr 1), (4, ptr 3), (5, ptr 4), (6, ptr 5), (9, ptr 14), (10, ptr 15), (11, ptr 16), (12, ptr 17), (28, vV (.tuple #[]))] 38 0, HL lb cap (n + 449) l' sp' u x z b, []⟩ (a4.put (some 28) ((vV (.tuple #[])).val ρ')) W' := s6
    refine toA_sound hm sp71_ok (last71 lb cap (n + 449) l' sp' u x z b swE mulE invE (.tuple #[])) met0 s7 fun ρ8 a8 w8 hag8 s8 => ?_
    generalize mulE (swE (bI (false != b)) x).1 (invE (swE (bI (false != b)) z).1) = r at s8 ⊢
    have hfin : bodyPost Tryz.prog Tryz.f71 (fun e w' => e = .returned ((E1 r).val ρ) ∧ ∃ ρ' l' sp', ρ' 0 = ρ 0 ∧ ρ' 1 = ρ 1 ∧ List.length (α := Int × Int) l' = n + 449 ∧ (ρ' 2).2 = n + 449 + List.length (α := Int × Int) sp' ∧ Ref w0 ρ' w' (lk (H71 lb (n + 449) l' sp'))) .ret a8 w8 :=
      fun_end s8 (l := [.agg [.e r]]) (by kernel_rfl) ⟨rfl, ρ8, l', sp', by
        rw [hag8 0 (by show 0 < 18; decide), e1 0 (by decide) (by decide), hag4 0 (by show 0 < 18; decide), hag2 0 (by show 0 < 18; decide), hag1 0 (by show 0 < 3; decide)], by
        rw [hag8 1 (by show 1 < 18; decide), e1 1 (by decide) (by decide), hag4 1 (by show 1 < 18; decide), hag2 1 (by show 1 < 18; decide), hag1 1 (by show 1 < 3; decide)], e2, by
        rw [hag8 2 (by show 2 < 18; decide)]; exact e3, s8.ref.less fun k b' hk => by
          match k, hk with
          | 0, hk => exact ⟨b', hk, rfl, id⟩
          | 1, hk => exact ⟨b', hk, rfl, id⟩
          | 2, hk => exact ⟨b', hk, rfl, id⟩⟩ (.inl rfl)
    exact hfin
end Go.Proofs.YtkiaodihfofbnaaGreatDoor.X
namespace Go.Proofs.YtkiaodihfofbnaaGreatDoor.X
open Go Go.RowKit
set_option maxRecDepth 100000

/-- A call that notes a condition. -/
theorem is_step {w0 : Base} {o : Oper} {x y : Operand} {ats : Array TypeId} (hop : o.op = .call { callee := .value (.func 70), args := #[x, y], argTypes := ats }) {d : Nat} (hd : o.dst = some d) {T : List (Option AV)} {H : List (Option Blk)} {O : List Prop} {ρ : Rho} {a : Act} {w : World} (hs : StOk w0 ρ ⟨T, H, O⟩ a w)
    {kt kr n : Nat} {s : At} {r : Option Blk} {l : List (Int × Int)} {b : Bool} (hx : evalT (lk T) x = some (ptr kt)) (hy : evalT (lk T) y = some (B1 b)) (hl : l.length = n) (hn : n < 1000000) (ht : lk H kt = some (tpB s)) (hr : lk H kr = r) (htp : TpAt kr ρ n s r l) (hne : kt ≠ kr) (hfree : freeB H [kt, kr] kr = true)
    {next : Act → World → Prop} {Q : Exit → Act → World → Prop} (hk : ∀ ρ' l' sp' w', (∀ j, j ≠ kr → ρ' j = ρ j) → List.length (α := Int × Int) l' = n + 1 → (ρ' kr).2 = n + 1 + List.length (α := Int × Int) sp' → Ref w0 ρ' w' (lk (setH H [(kt, tpB (.s kr (n + 1) none)), (kr, evB l' sp')])) →
      next (a.put (some d) (.bool b)) w') : o.wp Tryz.prog a w next Q := by
  refine call_wp hop hs.rel (xf := .g (.a (.v (.func (.func 70) #[] #[])))) (xargs := [ptr kt, B1 b]) rfl (by
    show operandsT (lk T) [x, y] = _
    simp only [operandsT, hx, hy]) (g := 70) (first := []) (caps := []) rfl fun70 ((is_in hs.ref hl hn ht hr htp hne hfree b).mono ?_)
  rintro e w' ⟨rfl, ρ', l', sp', e1, e2, e3, e4⟩
  refine ⟨_, rfl, ?_⟩
  rw [hd]
  exact hk ρ' l' sp' w' e1 e2 e3 e4
theorem fun43 : Fun Tryz.prog 43 Tryz.f43 := ⟨Tryz.func43, by kernel_rfl, by kernel_rfl⟩
noncomputable def at43 (n : Nat) : Code := tailS n ((Tryz.f43.body).getD .skip)
noncomputable def opsOf (c : Code) : Array Oper := match c with
  | .seq (.seq (.region _ ops _) _) _ => ops
  | .seq (.region _ ops _) _ => ops
  | _ => #[]
noncomputable def ops43a : Array Oper := opsOf (at43 2)
noncomputable def ops43b : Array Oper := opsOf (at43 4)
noncomputable def ops43c : Array Oper := opsOf (at43 6)
noncomputable def ops43d : Array Oper := opsOf (at43 7)
noncomputable def ops43e : Array Oper := opsOf (at43 8)
def sp43 (clamp : List Int → List Int) : Sp := spOf [e38, e5 clamp, e12, e10]
theorem sp43_ok : SpOk Tryz.prog (sp43 clampL) := spOk_cons e38_ok (spOk_cons e5_ok (spOk_cons e12_ok (spOk_cons e10_ok spOk_nil)))
abbrev a0 (c : Option Nat) : AV := .g (.a (.s 0 56 c))
abbrev a1' (c : Option Nat) : AV := .g (.a (.s 1 56 c))
abbrev K43 (l m : List Int) (t t' : TypeId) (n : Nat) (ev sp : List (Int × Int)) : List (Option Blk) := [some (rowBlk l t), some (rowBlk m t'), some (tpB (.s 3 n none)), some (evB ev sp)]
section
variable (l m : List Int) (t t' : TypeId) (c c' : Option Nat) (clamp : List Int → List Int)
theorem begin43 : toS Tryz.prog (sp43 clamp) false 20 2 (at43 0) ⟨startT Tryz.f43 [a0 c, a1' c'], [some (rowBlk l t), some (rowBlk m t')], []⟩ [0, 1, 7] [0, 1, 2] 3 = some ⟨mkA [(0, a0 c), (1, a1' c'), (7, ptr 2)] 58 0, [some (rowBlk l t), some (rowBlk m t'), some (tpB (.v (.slice none 0 0)))], []⟩ := by
  show toS _ _ _ _ _ _ _ _ _ _ = some _; kernel_rfl
theorem is43a : runSeq Tryz.prog (spOf []) false ops43a.toList (ops43a.toList.take 9) (mkA [(0, a0 c), (1, a1' c'), (7, ptr 2)] 58 0) [some (rowBlk l t), some (rowBlk m t'), some (tpB (.v (.slice none 0 0))), none] [] =
    some (mkA [(0, a0 c), (1, a1' c'), (7, ptr 2), (14, ptr 2), (15, a0 c), (16, I1 .i64 56), (17, B1 false), (18, B1 false), (19, a1' c'), (20, I1 .i64 56), (21, B1 false), (22, B1 false)] 58 0, [some (rowBlk l t), some (rowBlk m t'), some (tpB (.v (.slice none 0 0))), none], []) := by
  show runSeq _ _ _ _ _ _ _ _ = some _; kernel_rfl
theorem of43 (n : Nat) (ev sp : List (Int × Int)) : toS Tryz.prog (sp43 clamp) false 20 1 (at43 3) ⟨mkA [(0, a0 c), (1, a1' c'), (7, ptr 2)] 58 0, K43 l m t t' n ev sp, []⟩ [0, 7, 8, 9] [0, 1, 2, 3, 4] 5 =
    some ⟨mkA [(0, a0 c), (7, ptr 2), (8, ptr 4), (9, I1 .i64 0)] 58 0, K43 l m t t' n ev sp ++ [some ⟨[.e (ofE m)], 29, false, true⟩], [Bytes256 m, m.length = 56]⟩ := by
  show toS _ _ _ _ _ _ _ _ _ _ = some _; kernel_rfl
theorem is43b (n : Nat) (ev sp : List (Int × Int)) : runSeq Tryz.prog (spOf []) false ops43b.toList (ops43b.toList.take 3) (mkA [(0, a0 c), (7, ptr 2), (8, ptr 4), (9, I1 .i64 0)] 58 0) (K43 l m t t' n ev sp ++ [some ⟨[.e (ofE m)], 29, false, true⟩]) [] =
    some (mkA [(0, a0 c), (7, ptr 2), (8, ptr 4), (9, I1 .i64 0), (29, ptr 2), (30, I1 .i64 0), (31, B1 false)] 58 0, K43 l m t t' n ev sp ++ [some ⟨[.e (ofE m)], 29, false, true⟩], []) := by
  show runSeq _ _ _ _ _ _ _ _ = some _; kernel_rfl
theorem clamp43 (n : Nat) (ev sp : List (Int × Int)) : toS Tryz.prog (sp43 clamp) false 20 1 (at43 5) ⟨mkA [(0, a0 c), (7, ptr 2), (8, ptr 4)] 58 0, K43 l m t t' n ev sp ++ [some ⟨[.e (ofE m)], 29, false, true⟩], []⟩ [7, 8, 9, 10] [0, 1, 2, 3, 4, 5] 6 =
    some ⟨mkA [(7, ptr 2), (8, ptr 4), (9, I1 .i64 0), (10, .g (.a (.s 5 56 none)))] 58 0, K43 l m t t' n ev sp ++ [some ⟨[.e (ofE m)], 29, false, true⟩, some ⟨[.r .u8 (clamp l)], 5, true, true⟩], [l.length = 56]⟩ := by
  show toS _ _ _ _ _ _ _ _ _ _ = some _; kernel_rfl
abbrev K43' (n : Nat) (ev sp : List (Int × Int)) (lb : List Int) (u : El) : List (Option Blk) := K43 l m t t' n ev sp ++ [some ⟨[.e u], 29, false, true⟩, some ⟨[.r .u8 lb], 5, true, true⟩]
theorem is43c (n : Nat) (ev sp : List (Int × Int)) (lb : List Int) (u : El) : runSeq Tryz.prog (spOf []) false ops43c.toList (ops43c.toList.take 3) (mkA [(7, ptr 2), (8, ptr 4), (9, I1 .i64 0), (10, .g (.a (.s 5 56 none)))] 58 0) (K43' l m t t' n ev sp lb u) [] =
    some (mkA [(7, ptr 2), (8, ptr 4), (9, I1 .i64 0), (10, .g (.a (.s 5 56 none))), (39, ptr 2), (40, I1 .i64 0), (41, B1 false)] 58 0, K43' l m t t' n ev sp lb u, []) := by
  show runSeq _ _ _ _ _ _ _ _ = some _; kernel_rfl
theorem lad43 (n : Nat) (ev sp : List (Int × Int)) (lb : List Int) (u : El) : runSeq Tryz.prog (spOf []) false ops43d.toList (ops43d.toList.take 3) (mkA [(7, ptr 2), (8, ptr 4), (10, .g (.a (.s 5 56 none)))] 58 0) (K43' l m t t' n ev sp lb u) [] =
    some (mkA [(7, ptr 2), (8, ptr 4), (10, .g (.a (.s 5 56 none))), (44, ptr 2), (45, .g (.a (.s 5 56 none))), (46, E1 u)] 58 0, K43' l m t t' n ev sp lb u, []) := by
  show runSeq _ _ _ _ _ _ _ _ = some _; kernel_rfl
theorem put43 (n : Nat) (ev sp : List (Int × Int)) (lb : List Int) (u r : El) : restA Tryz.prog (spOf []) false 4 ops43d.toList ⟨mkA [(7, ptr 2), (47, E1 r)] 58 0, K43' l m t t' n ev sp lb u, []⟩ [7, 11] [0, 1, 2, 3, 6] 7 =
    some ⟨mkA [(7, ptr 2), (11, ptr 6)] 58 0, K43 l m t t' n ev sp ++ [none, none, some ⟨[.e r], 29, false, true⟩], []⟩ := by
  show restA _ _ _ _ _ _ _ _ _ = some _; kernel_rfl
abbrev K43z (n : Nat) (ev sp : List (Int × Int)) (r : El) : List (Option Blk) := K43 l m t t' n ev sp ++ [none, none, some ⟨[.e r], 29, false, true⟩]
theorem is43d (n : Nat) (ev sp : List (Int × Int)) (r : El) : runSeq Tryz.prog (spOf [e12]) ⟨false, [(50, .bool false)]⟩ ops43e.toList (ops43e.toList.take 3) (mkA [(7, ptr 2), (11, ptr 6)] 58 0) (K43z l m t t' n ev sp r) [] =
    some (mkA [(7, ptr 2), (11, ptr 6), (48, ptr 2), (49, E1 r), (50, B1 false)] 58 0, K43z l m t t' n ev sp r, [Value.bool (isZ r) = Value.bool false]) := by
  show runSeq _ _ _ _ _ _ _ _ = some _; kernel_rfl
theorem last43 (n : Nat) (ev sp : List (Int × Int)) (r : El) : toA Tryz.prog (spOf [e10]) false 20 (at43 9) ⟨mkA [(7, ptr 2), (11, ptr 6)] 58 0, K43z l m t t' n ev sp r, []⟩ [4, 5, 6] [3, 8] 9 =
    some (.ret, ⟨mkA [(4, .g (.a (.s 8 56 none))), (5, .g (.a (.s 3 n none))), (6, I1 .i64 0)] 58 0, mkA [(3, evB ev sp), (8, ⟨[.r .u8 (bytesE r)], 5, true, true⟩)] 9 0, []⟩) := by
  show toA _ _ _ _ _ _ _ _ _ = some _; kernel_rfl
end
end Go.Proofs.YtkiaodihfofbnaaGreatDoor.X
namespace Go.Proofs.YtkiaodihfofbnaaGreatDoor.X
open Go Go.RowKit
set_option maxRecDepth 100000

def sg71 : Nat → Nat
  | 0 => 5
  | 1 => 2
  | _ => 3
theorem noted_calls {l m : List Int} (hb : Bytes256 l) (hb' : Bytes256 m) (hl : l.length = 56) (hl' : m.length = 56) (hz : isZ (ladE (clampL l) (ofE m)) = false) (t t' : TypeId) (c c' : Option Nat) {w : World} {ρ : Rho} (hR : Ref w ρ w (lk [some (rowBlk l t), some (rowBlk m t')])) :
    Calls Tryz.prog 43 (argsV ρ [a0 c, a1' c']) w fun e w' => ∃ g cp ev rest, e = .returned (.tuple #[.slice (some ⟨g, 0, none⟩) 56 cp, ev, .int .i64 0]) ∧ Below w.heap.size w w' ∧ w.heap.size ≤ g ∧ w'.heap[g]? = some (.cells ((bytesE (ladE (clampL l) (ofE m))).map (Value.int .u8) ++ rest).toArray 5 (0, 0)) := by
  refine fun_wp (H := [some (rowBlk l t), some (rowBlk m t')]) fun43.at_ (c := at43 0) rfl (by kernel_rfl) hR fun a hs => ?_
  refine toS_sound hm sp43_ok (begin43 l m t t' c c' clampL) met0 hs fun ρ1 a1 w1 _ s1 => ?_
  have s1' : StOk w ρ1 ⟨mkA [(0, a0 c), (1, a1' c'), (7, ptr 2)] 58 0, [some (rowBlk l t), some (rowBlk m t'), some (tpB (.v (.slice none 0 0))), none], []⟩ a1 w1 := by
    refine ⟨bndB_spec (by kernel_rfl), s1.rel, s1.ref.less fun k b' hk => ?_⟩
    match k, hk with
    | 0, hk => exact ⟨b', hk, rfl, id⟩
    | 1, hk => exact ⟨b', hk, rfl, id⟩
    | 2, hk => exact ⟨b', hk, rfl, id⟩
    | 3, hk => cases hk
  refine wp_seq (wp_seq ?_)
  change (Code.region _ ops43a false).wp _ _ _ _
  refine region_op (sy := false) spOk_nil 9 rfl rfl (is43a l m t t' c c') met0 s1' fun ρ2 a2 w2 _ s2 => ?_
  refine is_step rfl rfl s2 (kt := 2) (kr := 3) (n := 0) (l := []) (b := false) rfl rfl rfl (by decide) rfl rfl (.inl ⟨rfl, rfl, rfl⟩) (by decide) (by kernel_rfl) fun ρ3 ev3 sp3 w3 e1 e2 e3 hR3 => ?_
  have s3 := s2.moved (ρ' := ρ3) (w' := w3) (d := 23) (v := B1 false) 3 (fun j _ hne => e1 j hne) hR3 (by kernel_rfl)
  refine toA_sound (sy := false) (n := 5) (ts := [0, 1, 7]) (ks := [0, 1, 2, 3]) (hl := 4) (ex := .normal) (st' := ⟨mkA [(0, a0 c), (1, a1' c'), (7, ptr 2)] 58 0, K43 l m t t' 1 ev3 sp3, []⟩) hm spOk_nil (by kernel_rfl) met0 s3 fun ρ4 a4 w4 hag4 s4 => ?_
  replace e3 : (ρ4 3).2 = 1 + sp3.length := by rw [hag4 3 (by show 3 < 4; decide)]; exact e3
  -- of
  refine toS_sound hm sp43_ok (of43 l m t t' c c' clampL 1 ev3 sp3) (fun p hp => by
    simp only [List.mem_cons, List.not_mem_nil, or_false] at hp
    rcases hp with rfl | rfl
    · exact hb'
    · exact hl') s4 fun ρ5 a5 w5 hag5 s5 => ?_
  replace e3 : (ρ5 3).2 = 1 + sp3.length := by rw [hag5 3 (by show 3 < 4; decide)]; exact e3
  have s5' : StOk w ρ5 ⟨mkA [(0, a0 c), (7, ptr 2), (8, ptr 4), (9, I1 .i64 0)] 58 0, K43 l m t t' 1 ev3 sp3 ++ [some ⟨[.e (ofE m)], 29, false, true⟩], []⟩ a5 w5 := ⟨s5.bnd, s5.rel, s5.ref⟩
  refine wp_seq (wp_seq ?_)
  change (Code.region _ ops43b false).wp _ _ _ _
  refine region_op (sy := false) spOk_nil 3 rfl rfl (is43b l m t t' c 1 ev3 sp3) met0 s5' fun ρ6 a6 w6 hag6 s6 => ?_
  refine is_step rfl rfl s6 (kt := 2) (kr := 3) (n := 1) (l := ev3) (b := false) rfl rfl e2 (by decide) rfl rfl (.inr ⟨sp3, rfl, rfl, by rw [hag6 3 (by show 3 < 5; decide)]; exact e3⟩) (by decide) (by kernel_rfl) fun ρ7 ev7 sp7 w7 f1 f2 f3 hR7 => ?_
  have s7 := s6.moved (ρ' := ρ7) (w' := w7) (d := 32) (v := B1 false) 3 (fun j _ hne => f1 j hne) hR7 (by kernel_rfl)
  refine toA_sound (sy := false) (n := 5) (ts := [0, 7, 8]) (ks := [0, 1, 2, 3, 4]) (hl := 5) (ex := .normal) (st' := ⟨mkA [(0, a0 c), (7, ptr 2), (8, ptr 4)] 58 0, K43 l m t t' 2 ev7 sp7 ++ [some ⟨[.e (ofE m)], 29, false, true⟩], []⟩) hm spOk_nil (by kernel_rfl) met0 s7 fun ρ8 a8 w8 hag8 s8 => ?_
  replace f3 : (ρ8 3).2 = 2 + sp7.length := by rw [hag8 3 (by show 3 < 5; decide)]; exact f3
  -- clamp
  refine toS_sound hm sp43_ok (clamp43 l m t t' c clampL 2 ev7 sp7) (fun p hp => by
    simp only [List.mem_cons, List.not_mem_nil, or_false] at hp
    rw [hp]; exact hl) s8 fun ρ9 a9 w9 hag9 s9 => ?_
  replace f3 : (ρ9 3).2 = 2 + sp7.length := by rw [hag9 3 (by show 3 < 5; decide)]; exact f3
  have hcb := clampL_256 hb
  have hcl : (clampL l).length = 56 := by rw [clampL_len]; exact hl
  generalize clampL l = lb at *
  generalize ofE m = u at *
  have s9' : StOk w ρ9 ⟨mkA [(7, ptr 2), (8, ptr 4), (9, I1 .i64 0), (10, .g (.a (.s 5 56 none)))] 58 0, K43' l m t t' 2 ev7 sp7 lb u, []⟩ a9 w9 := ⟨s9.bnd, s9.rel, s9.ref⟩
  refine wp_seq (wp_seq ?_)
  change (Code.region _ ops43c false).wp _ _ _ _
  refine region_op (sy := false) spOk_nil 3 rfl rfl (is43c l m t t' 2 ev7 sp7 lb u) met0 s9' fun ρ10 a10 w10 hag10 s10 => ?_
  refine is_step rfl rfl s10 (kt := 2) (kr := 3) (n := 2) (l := ev7) (b := false) rfl rfl f2 (by decide) rfl rfl (.inr ⟨sp7, rfl, rfl, by rw [hag10 3 (by show 3 < 6; decide)]; exact f3⟩) (by decide) (by kernel_rfl) fun ρ11 ev11 sp11 w11 g1 g2 g3 hR11 => ?_
  have s11 := s10.moved (ρ' := ρ11) (w' := w11) (d := 42) (v := B1 false) 3 (fun j _ hne => g1 j hne) hR11 (by kernel_rfl)
  refine toA_sound (sy := false) (n := 5) (ts := [7, 8, 10]) (ks := [0, 1, 2, 3, 4, 5]) (hl := 6) (ex := .normal) (st' := ⟨mkA [(7, ptr 2), (8, ptr 4), (10, .g (.a (.s 5 56 none)))] 58 0, K43' l m t t' 3 ev11 sp11 lb u, []⟩) hm spOk_nil (by kernel_rfl) met0 s11 fun ρ12 a12 w12 hag12 s12 => ?_
  replace g3 : (ρ12 3).2 = 3 + sp11.length := by rw [hag12 3 (by show 3 < 6; decide)]; exact g3
  -- the ladder
  refine wp_seq ?_
  change (Code.region _ ops43d false).wp _ _ _ _
  refine region_op (sy := false) spOk_nil 3 rfl rfl (lad43 l m t t' 3 ev11 sp11 lb u) met0 s12 fun ρ13 a13 w13 hag13 s13 => ?_
  obtain ⟨v1, hR14, hback⟩ := frame2 s13.ref (H71 lb 3 ev11 sp11) sg71 2 (by show 2 < 3; decide) (fun i b0 hi => by
    match i, hi with
    | 0, hi => obtain rfl := Option.some.inj hi; exact ⟨_, rfl, rfl, rfl, rfl, rfl⟩
    | 1, hi => obtain rfl := Option.some.inj hi; exact ⟨_, rfl, rfl, rfl, rfl, rfl⟩
    | 2, hi => obtain rfl := Option.some.inj hi; exact ⟨_, rfl, rfl, rfl, rfl, rfl⟩) (fun h => by cases h) (fun b0 h => by obtain rfl := Option.some.inj h; rfl) (fun i j hi hj he => by
    have h1 : i < 3 := hi
    have h2 : j < 3 := hj
    have h1 : i = 0 ∨ i = 1 ∨ i = 2 := by omega
    have h2 : j = 0 ∨ j = 1 ∨ j = 2 := by omega
    rcases h1 with rfl | rfl | rfl <;> rcases h2 with rfl | rfl | rfl <;> first | rfl | exact absurd he (by decide)) (fun k b hk hn => by
    by_cases q1 : k ∈ [2, 3]
    · simp only [List.mem_cons, List.not_mem_nil, or_false] at q1
      rcases q1 with rfl | rfl
      · exact absurd rfl (hn 1 _ rfl rfl)
      · exact absurd rfl (hn 2 _ rfl rfl)
    · exact freeB_spec (H := K43' l m t t' 3 ev11 sp11 lb u) (ks := [2, 3]) (kr := 3) (by kernel_rfl) k b hk q1)
  refine call_wp rfl s13.rel (xf := .g (.a (.v (.func (.func 71) #[] #[])))) (xargs := [ptr 2, .g (.a (.s 5 56 none)), E1 u]) rfl rfl (g := 71) (first := []) (caps := []) rfl fun71 ?_
  have hargs : argsV ρ13 ([] ++ [ptr 2, .g (.a (.s 5 56 none)), E1 u] ++ []) = argsV (fun i => ρ13 (sg71 i)) [ptr 1, .g (.a (.s 0 56 none)), E1 u] := rfl
  rw [hargs]
  refine (ladder71_calls hcb hcl none u (n := 3) (by decide) g2 (by show (ρ13 3).2 = _; rw [hag13 3 (by show 3 < 6; decide)]; exact g3) hR14).mono ?_
  generalize ladE lb u = r at hz ⊢
  rintro e w14 ⟨rfl, ρ14, ev14, sp14, h0, h1, h2, h3, hR14'⟩
  refine ⟨_, rfl, ?_⟩
  have hR15 := hback ρ14 w14 (H71 lb 452 ev14 sp14) hR14' (by kernel_rfl) (fun i hi hne => by
    have hi' : i < 3 := hi
    have : i = 0 ∨ i = 1 := by omega
    rcases this with rfl | rfl
    · exact h0
    · exact h1)
  rw [← lk_setH, show setH (K43' l m t t' 3 ev11 sp11 lb u) (effV sg71 (H71 lb 452 ev14 sp14)) = K43' l m t t' 452 ev14 sp14 lb u from by kernel_rfl] at hR15
  have s15 := s13.moved (ρ' := put1 ρ13 3 (ρ14 2).1 (ρ14 2).2) (w' := w14) (d := 47) (v := E1 r) 3 (fun j _ hne => put1_ne _ hne) hR15 (by kernel_rfl)
  have hc15 : (put1 ρ13 3 (ρ14 2).1 (ρ14 2).2 3).2 = 452 + sp14.length := by rw [put1_self]; exact h3
  have s15' := s15.cut (ts := [7, 47]) (ks := [0, 1, 2, 3, 4, 5]) (hl := 6) (by kernel_rfl)
  have s15'' : StOk w (put1 ρ13 3 (ρ14 2).1 (ρ14 2).2) ⟨mkA [(7, ptr 2), (47, E1 r)] 58 0, K43' l m t t' 452 ev14 sp14 lb u, []⟩ (a13.put (some 47) ((E1 r).val (put1 ρ13 3 (ρ14 2).1 (ρ14 2).2))) w14 := s15'
  generalize put1 ρ13 3 (ρ14 2).1 (ρ14 2).2 = ρ15 at s15'' hc15
  refine restA_sound spOk_nil (put43 l m t t' 452 ev14 sp14 lb u r) met0 s15'' fun ρ16 a16 w16 hag16 s16 => ?_
  have hc16 : (ρ16 3).2 = 452 + sp14.length := by rw [hag16 3 (by show 3 < 6; decide)]; exact hc15
  -- whether it is nought
  refine wp_seq (wp_seq ?_)
  change (Code.region _ ops43e false).wp _ _ _ _
  refine region_op (sy := ⟨false, [(50, .bool false)]⟩) (spOk_cons e12_ok spOk_nil) 3 rfl rfl (is43d l m t t' 452 ev14 sp14 r) (fun p hp => by rw [List.mem_singleton.1 hp, hz]) s16 fun ρ17 a17 w17 hag17 s17 => ?_
  refine is_step rfl rfl s17 (kt := 2) (kr := 3) (n := 452) (l := ev14) (b := false) rfl rfl h2 (by decide) rfl rfl (.inr ⟨sp14, rfl, rfl, by rw [hag17 3 (by show 3 < 7; decide)]; exact hc16⟩) (by decide) (by kernel_rfl) fun ρ18 ev18 sp18 w18 i1 i2 i3 hR18 => ?_
  have s18 := s17.moved (ρ' := ρ18) (w' := w18) (d := 51) (v := B1 false) 3 (fun j _ hne => i1 j hne) hR18 (by kernel_rfl)
  have s18' : StOk w ρ18 ⟨_, _, []⟩ _ w18 := ⟨s18.bnd, s18.rel, s18.ref⟩
  refine toA_sound (sy := false) (n := 5) (ts := [7, 11]) (ks := [0, 1, 2, 3, 6]) (hl := 7) (ex := .normal) (st' := ⟨mkA [(7, ptr 2), (11, ptr 6)] 58 0, K43z l m t t' 453 ev18 sp18 r, []⟩) hm spOk_nil (by kernel_rfl) met0 s18' fun ρ19 a19 w19 hag19 s19 => ?_
  refine toA_sound hm (spOk_cons e10_ok spOk_nil) (last43 l m t t' 453 ev18 sp18 r) met0 s19 fun ρ20 a20 w20 hag20 s20 => ?_
  obtain ⟨rest, _, hh⟩ := s20.ref.holds 8 _ rfl
  exact fun_end s20 (l := [.a (.s 8 56 none), .a (.s 3 453 none), .a (.v (.int .i64 0))]) (by kernel_rfl) ⟨(ρ20 8).1, (ρ20 8).2, _, rest, rfl, s20.ref.below, s20.ref.own 8 _ rfl rfl, by rw [hh]; simp [flat, At.cells]⟩ (.inl rfl)
end Go.Proofs.YtkiaodihfofbnaaGreatDoor.X
namespace Go.Proofs.YtkiaodihfofbnaaGreatDoor.X
open Go Go.RowKit
set_option maxRecDepth 100000

def zB : List Int := List.replicate 56 0
def kL : List Int := zB.set 0 8
def uL : List Int := zB.set 0 5
theorem five_bytes : bytesE five' = uL := by kernel_rfl

theorem made_zB : madeCells (List.replicate (rwI .u8).size (rwI .u8).zv).toArray ((56 : Int).toNat * 1) = (zB.map (Value.int .u8)).toArray := by kernel_rfl
theorem make56 {w0 : Base} {o : Oper} (hop : o.op = .makeSlice 34 (.const (.int .i64 56)) (.const (.int .i64 56))) {d : Nat} (hd : o.dst = some d) {T : List (Option AV)} {H : List (Option Blk)} {O : List Prop} {ρ : Rho} {a : Act} {w : World} (hs : StOk w0 ρ ⟨T, H, O⟩ a w) (hdl : d < T.length)
    (hi : (ltAll (setH H [(H.length, (⟨[.r .u8 zB], 5, false, true⟩ : Blk))]).length (AV.g (.a (.s H.length 56 (some 56)))).ids && ltAll (setH H [(H.length, (⟨[.r .u8 zB], 5, false, true⟩ : Blk))]).length (effIds [(H.length, (⟨[.r .u8 zB], 5, false, true⟩ : Blk))])) = true)
    {next : Act → World → Prop} {Q : Exit → Act → World → Prop}
    (hk : ∀ ρ' a' w', (∀ j, j < H.length → ρ' j = ρ j) → StOk w0 ρ' ⟨setT T ⟨some d, .g (.a (.s H.length 56 (some 56))), [(H.length, ⟨[.r .u8 zB], 5, false, true⟩)], [], []⟩, setH H [(H.length, ⟨[.r .u8 zB], 5, false, true⟩)], O⟩ a' w' → next a' w') : o.wp Tryz.prog a w next Q := by
  obtain ⟨i, z, h1, h2, h3, h4, h5⟩ := rwT34.info
  have h3' : i.size = 1 := h3
  have hrun := run_makeSlice (P := Tryz.prog) w 34 5 i z rwT34.under h1 h2 .i64 .i64 56 56 (by decide) (by decide) (by rw [h3']; decide) (by rw [h4]; decide) (by decide)
  have hc : madeCells z.cells ((56 : Int).toNat * i.size) = (zB.map (Value.int .u8)).toArray := by rw [h5, h3']; exact made_zB
  rw [hc] at hrun
  refine wp_value (v := .slice (some ⟨w.heap.size, 0, none⟩) 56 56) (w' := w.alloc (.cells (zB.map (Value.int .u8)).toArray 5)) ?_ ?_
  · simp only [execOp, hop]
    exact (run_ok hrun).trans rfl
  · have h := hs.newV hdl (v := .g (.a (.s H.length 56 (some 56)))) (b := ⟨[.r .u8 zB], 5, false, true⟩) rfl (g := w.heap.size) (c := 56) ((Below.refl _ _).alloc (Nat.le_refl _) _) (Nat.le_refl _) ⟨[], fun _ => rfl, by
      rw [put1_self, heap_alloc_self, List.append_nil]⟩ hi
    rw [hd]
    have hv : (AV.g (.a (.s H.length 56 (some 56)))).val (put1 ρ H.length w.heap.size 56) = .slice (some ⟨w.heap.size, 0, none⟩) 56 56 := by simp [AV.val, G.val, At.val, put1_self]
    rw [hv] at h
    exact hk _ _ _ (fun j hj => put1_ne _ (Nat.ne_of_lt hj)) h
theorem fun13 : Fun Tryz.prog 13 Tryz.f13 := ⟨Tryz.func13, by kernel_rfl, by kernel_rfl⟩
noncomputable def at13 (n : Nat) : Code := tailS n ((Tryz.f13.body).getD .skip)
noncomputable def ops13a : Array Oper := opsOf (at13 1)
noncomputable def ops13b : Array Oper := opsOf (at13 3)
noncomputable def ops13c : Array Oper := opsOf (at13 6)
abbrev rB (l : List Int) : Blk := ⟨[.r .u8 l], 5, false, true⟩
noncomputable def sp13 (clamp : List Int → List Int) (lad : List Int → El → El) : Sp := spOf [entB 42 pick42 clamp lad, e14]
theorem sp13_ok : SpOk Tryz.prog (sp13 clampL ladE) := spOk_cons e42_ok (spOk_cons e14_ok spOk_nil)
theorem call13 (clamp : List Int → List Int) (lad : List Int → El → El) (k u : List Int) : toS Tryz.prog (sp13 clamp lad) false 20 1 (at13 5) ⟨mkA [(1, .g (.a (.s 0 56 (some 56)))), (2, .g (.a (.s 1 56 (some 56))))] 43 0, [some (rB k), some (rB u)], []⟩ [1, 2, 3, 4] [0, 1, 3] 4 =
    some ⟨mkA [(1, .g (.a (.s 0 56 (some 56)))), (2, .g (.a (.s 1 56 (some 56)))), (3, .g (.a (.s 3 56 none))), (4, I1 .i64 0)] 43 0, [some (rB k), some (rB u), none, some ⟨[.r .u8 (pubB clamp lad k)], 5, true, true⟩], [Bytes256 k, isZ (lad (clamp k) (ofE (bytesE five'))) = false, k.length = 56]⟩ := by
  show toS _ _ _ _ _ _ _ _ _ _ = some _; kernel_rfl
theorem last13 (clamp : List Int → List Int) (lad : List Int → El → El) (k u p q : List Int) : toA Tryz.prog (sp13 clamp lad) false 20 (at13 7) ⟨mkA [(3, .g (.a (.s 3 56 none))), (4, I1 .i64 0), (5, .g (.a (.s 4 56 none))), (7, I1 .i64 0)] 43 0, [some (rB k), some (rB u), none, some ⟨[.r .u8 p], 5, true, true⟩, some ⟨[.r .u8 q], 5, true, true⟩], []⟩ [0] [] 0 =
    some (.ret, ⟨mkA [(0, B1 true)] 43 0, [], [p = q, p.length = 56, q.length = 56]⟩) := by
  show toA _ _ _ _ _ _ _ _ _ = some _; kernel_rfl
theorem row_pre (l : List Int) : ∀ ρ, ∃ r, flat ρ [.r .u8 l] = l.map (Value.int .u8) ++ r := fun ρ => ⟨[], by simp [flat, At.cells]⟩
theorem kL_256 : Bytes256 kL := by unfold Bytes256 kL zB; decide
theorem uL_256 : Bytes256 uL := by unfold Bytes256 uL zB; decide
theorem awake_calls (hz : isZ (ladE (clampL kL) (ofE uL)) = false) {w : World} {ρ : Rho} : Calls Tryz.prog 13 (argsV ρ []) w fun e w' => ∃ ρ', e = .returned ((B1 true).val ρ') ∧ Below w.heap.size w w' := by
  refine fun_wp (H := []) fun13.at_ (c := at13 0) rfl (by kernel_rfl) (read_ref (w := w) rfl (fun k b hk => by cases hk)) fun a hs => ?_
  refine toS_sound (sy := false) (m := 20) (n := 1) (ts := []) (ks := []) (hl := 0) (st' := ⟨mkA [] 43 0, [], []⟩) hm spOk_nil (by kernel_rfl) met0 hs fun ρ1 a1 w1 _ s1 => ?_
  refine wp_seq ?_
  change (Code.region _ ops13a false).wp _ _ _ _
  refine region_op (sy := false) spOk_nil 0 rfl rfl (T1 := mkA [] 43 0) (H1 := []) (O1 := []) (by kernel_rfl) met0 s1 fun ρ2 a2 w2 _ s2 => ?_
  refine make56 rfl rfl s2 (by decide) (by kernel_rfl) fun ρ3 a3 w3 _ s3 => ?_
  refine restA_sound (sy := false) (ts := [1]) (ks := [0]) (hl := 1) (st' := ⟨mkA [(1, .g (.a (.s 0 56 (some 56))))] 43 0, [some (rB zB)], []⟩) spOk_nil (by kernel_rfl) met0 s3 fun ρ4 a4 w4 _ s4 => ?_
  refine toS_sound (sy := false) (m := 20) (n := 1) (ts := [1]) (ks := [0]) (hl := 1) (st' := ⟨mkA [(1, .g (.a (.s 0 56 (some 56))))] 43 0, [some (rB kL)], [0 < zB.length]⟩) hm spOk_nil (by kernel_rfl) (fun p hp => by rw [List.mem_singleton.1 hp]; decide) s4 fun ρ5 a5 w5 _ s5 => ?_
  have s5' : StOk w ρ5 ⟨mkA [(1, .g (.a (.s 0 56 (some 56))))] 43 0, [some (rB kL)], []⟩ a5 w5 := ⟨s5.bnd, s5.rel, s5.ref⟩
  refine wp_seq ?_
  change (Code.region _ ops13b false).wp _ _ _ _
  refine region_op (sy := false) spOk_nil 0 rfl rfl (T1 := mkA [(1, .g (.a (.s 0 56 (some 56))))] 43 0) (H1 := [some (rB kL)]) (O1 := []) (by kernel_rfl) met0 s5' fun ρ6 a6 w6 _ s6 => ?_
  refine make56 rfl rfl s6 (by decide) (by kernel_rfl) fun ρ7 a7 w7 _ s7 => ?_
  refine restA_sound (sy := false) (ts := [1, 2]) (ks := [0, 1]) (hl := 2) (st' := ⟨mkA [(1, .g (.a (.s 0 56 (some 56)))), (2, .g (.a (.s 1 56 (some 56))))] 43 0, [some (rB kL), some (rB zB)], []⟩) spOk_nil (by kernel_rfl) met0 s7 fun ρ8 a8 w8 _ s8 => ?_
  refine toS_sound (sy := false) (m := 20) (n := 1) (ts := [1, 2]) (ks := [0, 1]) (hl := 2) (st' := ⟨mkA [(1, .g (.a (.s 0 56 (some 56)))), (2, .g (.a (.s 1 56 (some 56))))] 43 0, [some (rB kL), some (rB uL)], [0 < zB.length]⟩) hm spOk_nil (by kernel_rfl) (fun p hp => by rw [List.mem_singleton.1 hp]; decide) s8 fun ρ9 a9 w9 _ s9 => ?_
  have s9' : StOk w ρ9 ⟨mkA [(1, .g (.a (.s 0 56 (some 56)))), (2, .g (.a (.s 1 56 (some 56))))] 43 0, [some (rB kL), some (rB uL)], []⟩ a9 w9 := ⟨s9.bnd, s9.rel, s9.ref⟩
  refine toS_sound hm sp13_ok (call13 clampL ladE kL uL) (fun p hp => by
    simp only [List.mem_cons, List.not_mem_nil, or_false] at hp
    rcases hp with rfl | rfl | rfl
    · exact kL_256
    · rw [five_bytes]; exact hz
    · rfl) s9' fun ρ10 a10 w10 _ s10 => ?_
  have hp : pubB clampL ladE kL = bytesE (ladE (clampL kL) (ofE uL)) := by unfold pubB; rw [five_bytes]
  rw [hp] at s10
  have hk256 := kL_256
  have hu256 := uL_256
  have hk56 : kL.length = 56 := rfl
  have hu56 : uL.length = 56 := rfl
  generalize kL = k at *
  generalize uL = u at *
  have hq56 := bytesE_len (ladE (clampL k) (ofE u))
  have hnoted := fun (w : World) (ρ : Rho) (hR : Ref w ρ w (lk [some (rowBlk k 5), some (rowBlk u 5)])) => noted_calls hk256 hu256 hk56 hu56 hz 5 5 (some 56) (some 56) hR
  generalize bytesE (ladE (clampL k) (ofE u)) = q at *
  have s10' : StOk w ρ10 ⟨mkA [(1, .g (.a (.s 0 56 (some 56)))), (2, .g (.a (.s 1 56 (some 56)))), (3, .g (.a (.s 3 56 none))), (4, I1 .i64 0)] 43 0, [some (rB k), some (rB u), none, some ⟨[.r .u8 q], 5, true, true⟩], []⟩ a10 w10 := ⟨s10.bnd, s10.rel, s10.ref⟩
  refine wp_seq ?_
  change (Code.region _ ops13c false).wp _ _ _ _
  refine region_op (sy := false) spOk_nil 2 rfl rfl (T1 := mkA [(1, .g (.a (.s 0 56 (some 56)))), (2, .g (.a (.s 1 56 (some 56)))), (3, .g (.a (.s 3 56 none))), (4, I1 .i64 0), (21, .g (.a (.s 0 56 (some 56)))), (22, .g (.a (.s 1 56 (some 56))))] 43 0) (H1 := [some (rB k), some (rB u), none, some ⟨[.r .u8 q], 5, true, true⟩]) (O1 := []) (by kernel_rfl) met0 s10' fun ρ11 a11 w11 _ s11 => ?_
  refine call_wp rfl s11.rel (xf := .g (.a (.v (.func (.func 43) #[] #[])))) (xargs := [.g (.a (.s 0 56 (some 56))), .g (.a (.s 1 56 (some 56)))]) rfl rfl (g := 43) (first := []) (caps := []) rfl fun43 ((hnoted w11 (fun i => ρ11 (sel2 0 1 i)) (read_ref rfl (two_holds s11.ref (k := 0) (k' := 1) (b := rB k) (b' := rB u) rfl rfl (row_pre k) (row_pre u)))).mono ?_)
  rintro e w12 ⟨g, cp, ev, rest, rfl, hbl, hg, hheap⟩
  refine ⟨_, rfl, ?_⟩
  have s12 := s11.newV (d := 23) (show 23 < 43 by decide) (v := .tup [.a (.s 4 56 none), .a (.v ev), .a (.v (.int .i64 0))]) (b := ⟨[.r .u8 q], 5, true, true⟩) rfl (g := g) (c := cp) hbl hg ⟨rest, (fun h => by cases h), by
    show w12.heap[(put1 ρ11 4 g cp 4).1]? = _
    rw [put1_self, hheap]
    simp [flat, At.cells]⟩ (by kernel_rfl)
  have hv : (AV.tup [.a (.s 4 56 none), .a (.v ev), .a (.v (.int .i64 0))]).val (put1 ρ11 4 g cp) = .tuple #[.slice (some ⟨g, 0, none⟩) 56 cp, ev, .int .i64 0] := by simp [AV.val, G.val, At.val, put1_self]
  have s12' : StOk w (put1 ρ11 4 g cp) _ (a11.put (some 23) ((AV.tup [.a (.s 4 56 none), .a (.v ev), .a (.v (.int .i64 0))]).val (put1 ρ11 4 g cp))) w12 := s12
  rw [hv] at s12'
  refine restA_sound (sy := false) (ts := [3, 4, 5, 7]) (ks := [0, 1, 3, 4]) (hl := 5) (st' := ⟨mkA [(3, .g (.a (.s 3 56 none))), (4, I1 .i64 0), (5, .g (.a (.s 4 56 none))), (7, I1 .i64 0)] 43 0, [some (rB k), some (rB u), none, some ⟨[.r .u8 q], 5, true, true⟩, some ⟨[.r .u8 q], 5, true, true⟩], []⟩) spOk_nil (by kernel_rfl) met0 s12' fun ρ13 a13 w13 _ s13 => ?_
  refine toA_sound hm sp13_ok (last13 clampL ladE k u q q) (fun p hp => by
    rcases List.mem_cons.1 hp with rfl | hp
    · rfl
    · rcases List.mem_cons.1 hp with rfl | hp
      · exact hq56
      · rw [List.mem_singleton.1 hp]; exact hq56) s13 fun ρ14 a14 w14 _ s14 => ?_
  exact fun_end s14 (l := [.a (.v (.bool true))]) (by kernel_rfl) ⟨ρ14, rfl, s14.ref.below⟩ (.inl rfl)
theorem awake_plain (hz : isZ (ladE (clampL kL) (ofE uL)) = false) : Plain Tryz.prog 13 [] (B1 true) := fun w ρ => does_of fun13 rfl (awake_calls hz)
end Go.Proofs.YtkiaodihfofbnaaGreatDoor.X
namespace Go.Proofs.YtkiaodihfofbnaaGreatDoor.X
open Go Go.RowKit
set_option maxRecDepth 100000

def spotV (cs : List At) : Option (List Int × Int) := match takeB 57 cs with
  | some l => match cs.drop 57 with
    | [.v (.int .i64 n)] => some (l, n)
    | _ => none
  | none => none
theorem spotV_spec {cs : List At} {l : List Int} {n : Int} (h : spotV cs = some (l, n)) : l.length = 57 ∧ AV.g (.agg cs) = spot l n := by
  unfold spotV at h
  split at h
  · rename_i l' hl
    split at h
    · rename_i n' hd
      obtain ⟨rfl, rfl⟩ := Prod.mk.inj (Option.some.inj h)
      obtain ⟨h1, r, h2⟩ := takeB_spec 57 cs _ hl
      have hlen : (vals (l'.map (Value.int .u8))).length = 57 := by unfold vals; simp [h1]
      have hr : r = [.v (.int .i64 n')] := by
        rw [← hd, h2, ← hlen, List.drop_left]
      refine ⟨h1, ?_⟩
      unfold spot
      rw [h2, hr]
    · cases h
  · cases h
def e4 (made : List Int → Int → Pt) : Ent := ⟨4, fun args _ _ => match args with
  | [.g (.agg cs)] => match spotV cs with
    | some (l, n) => some ⟨qR (made l n), [], [Bytes256 l]⟩
    | none => none
  | _ => none⟩
theorem e4_ok : EntOk Tryz.prog (e4 madeP) := fun args V kn o ho hob w0 ρ w H hR hV g1 g2 g3 => by
  unfold e4 at ho
  simp only at ho
  split at ho
  · rename_i cs
    split at ho
    · rename_i l n hs
      obtain rfl := Option.some.inj ho
      obtain ⟨h57, e⟩ := spotV_spec hs
      rw [e]
      exact does_ref hR (made_plain h57 hob.one n w ρ)
    · cases ho
  · cases ho
theorem fun3 : Fun Tryz.prog 3 Tryz.f3 := ⟨Tryz.func3, by kernel_rfl, by kernel_rfl⟩
def e13 : Ent := ent0 13 (B1 true)
theorem e13_ok (hz : isZ (ladE (clampL kL) (ofE uL)) = false) : EntOk Tryz.prog e13 := ent0_ok (awake_plain hz)
def sp3 (made : List Int → Int → Pt) (clamp : List Int → List Int) (mul : List Int → Pt → Pt) (up : Pt → El) (lad : List Int → El → El) (e9 : Ent) : Sp :=
  spOf [e4 made, e5 clamp, e6 mul, e7 lad, ent1 8 pP fun p => E1 (up p), e9, e10, e11t, e12, e13, e14]
theorem sp3_ok (hz : isZ (ladE (clampL kL) (ofE uL)) = false) {e9 : Ent} (h9 : EntOk Tryz.prog e9) : SpOk Tryz.prog (sp3 madeP clampL mulP uP ladE e9) :=
  spOk_cons e4_ok (spOk_cons e5_ok (spOk_cons e6_ok (spOk_cons e7_ok (spOk_cons e8_ok (spOk_cons h9 (spOk_cons e10_ok (spOk_cons e11t_ok (spOk_cons e12_ok (spOk_cons (e13_ok hz) (spOk_cons e14_ok spOk_nil))))))))))
section
variable (made : List Int → Int → Pt) (clamp : List Int → List Int) (mul : List Int → Pt → Pt) (up : Pt → El) (lad : List Int → El → El)
def ob3 (l : List Int) (n : Int) (k : List Int) (b : Bool) : List Prop :=
  [Value.bool (isZ (lad (clamp k) (up (made l n)))) = Value.bool b, isZ (subE (lad (clamp k) (up (made l n))) (up (mul (clamp k) (made l n)))) = true,
    Bytes256 k, Bytes256 (bytesE (up (made l n))), isZ (lad (clamp k) (ofE (bytesE (up (made l n))))) = b, k.length = 56, (bytesE (up (made l n))).length = 56,
    Bytes256 (clamp k), (clamp k).length = 56, Bytes256 (clamp k), (clamp k).length = 56, k.length = 56, Bytes256 l]
def ob3' (l : List Int) (n : Int) (k : List Int) : List Prop :=
  [bytesE (lad (clamp k) (ofE (bytesE (up (made l n))))) = bytesE (lad (clamp k) (up (made l n))), (bytesE (lad (clamp k) (ofE (bytesE (up (made l n)))))).length = 56, (bytesE (lad (clamp k) (up (made l n)))).length = 56]
theorem run3 (g : Nat → Int) (n : Int) (k : List Int) :
    ansOf (runFn Tryz.prog (sp3 made clamp mul up lad (e9t clamp lad)) ⟨false, [(66, .bool false)]⟩ 100 Tryz.f3 [spot (l57 g) n, .g (.agg [.r .u8 k])] []) = some (B1 true, ob3' made clamp up lad (l57 g) n k ++ ob3 made clamp mul up lad (l57 g) n k false) := by
  show ansOf _ = some _
  kernel_rfl
theorem run3z (g : Nat → Int) (n : Int) (k : List Int) :
    ansOf (runFn Tryz.prog (sp3 made clamp mul up lad (e9z clamp lad)) ⟨false, [(66, .bool true)]⟩ 100 Tryz.f3 [spot (l57 g) n, .g (.agg [.r .u8 k])] []) = some (B1 true, ob3 made clamp mul up lad (l57 g) n k true) := by
  show ansOf _ = some _
  kernel_rfl
end
end Go.Proofs.YtkiaodihfofbnaaGreatDoor.X
