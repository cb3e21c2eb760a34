/- X448 of a secret number and a point's u is the u of that number times the point (the law TopCurves): part 10 of 22 of its proof: digits, the table of multiples. No condition. -/
import Derived.Test.YtkiaodihfofbnaaGreatDoorM08
set_option linter.unusedVariables false
set_option linter.unusedSimpArgs false
namespace Go.Proofs.YtkiaodihfofbnaaGreatDoor.X
open Go Go.RowKit
set_option maxRecDepth 100000

theorem fun74 : Fun Tryz.prog 74 Tryz.f74 := ⟨Tryz.func74, by kernel_rfl, by kernel_rfl⟩
def e74 : Ent := ⟨74, fun args _ _ => match args with
  | [.g (.a (.s _ 56 _)), .g (.a (.v (.int .i64 (.ofNat 4))))] => some ⟨I1 .i64 112, [], []⟩
  | _ => none⟩
theorem none_holds {w : World} {ρ : Rho} : ∀ k b, lk ([none] : List (Option Blk)) k = some b → Holds ρ w k b ∧ (ρ k).1 < w.heap.size := fun k b hk => by
  match k, hk with
  | 0, hk => cases hk
theorem e74_ok : EntOk Tryz.prog e74 := fun args V kn o ho hob w0 ρ w H hR hV g1 g2 g3 => by
  unfold e74 at ho
  simp only at ho
  split at ho
  · rename_i k cap
    obtain rfl := Option.some.inj ho
    refine does_ref hR ?_
    exact read_run (args := [.g (.a (.s 0 56 cap)), I1 .i64 4]) (r := I1 .i64 112) (ob := []) hm spOk_nil fun74 false 100 (H := [none]) (ρ := fun _ => ρ k) (by kernel_rfl) met0 (by kernel_rfl) none_holds
  · cases ho
theorem fun48 : Fun Tryz.prog 48 Tryz.f48 := ⟨Tryz.func48, by kernel_rfl, by kernel_rfl⟩
def oneI (V : View) (k : Nat) : Bool := match V k with
  | some b => match b.cs with
    | [.v (.int .i64 (.ofNat 4))] => true
    | _ => false
  | none => false
theorem oneI_spec {V : View} {k : Nat} (h : oneI V k = true) : ∃ t o w, V k = some ⟨[.v (.int .i64 4)], t, o, w⟩ := by
  unfold oneI at h
  split at h
  · rename_i b hb
    split at h
    · rename_i hc
      obtain ⟨cs, t, o, w⟩ := b
      simp only at hc
      subst hc
      exact ⟨t, o, w, hb⟩
    · cases h
  · cases h
def e48 : Ent := ⟨48, fun args V _ => match args with
  | [.g (.a (.s _ 56 _)), .g (.a (.v (.int .i64 (.ofNat lo)))), .g (.a (.s k2 1 _))] => match oneI V k2, lo with
    | true, 1 => some ⟨.g (.a (.v (.int .i64 0))), [], []⟩
    | true, 2 => some ⟨.g (.a (.v (.int .i64 0))), [], []⟩
    | _, _ => none
  | _ => none⟩
theorem e48_ok : EntOk Tryz.prog e48 := fun args V kn o ho hob w0 ρ w H hR hV g1 g2 g3 => by
  unfold e48 at ho
  simp only at ho
  have run : ∀ (k k2 : Nat) (cap c2 : Option Nat) (t : TypeId) (ob w1 : Bool) (lo : Int), H k2 = some ⟨[.v (.int .i64 4)], t, ob, w1⟩ → ansOf (runFn Tryz.prog (spOf []) false 100 Tryz.f48 [.g (.a (.s 0 56 cap)), I1 .i64 lo, .g (.a (.s 1 1 c2))] [none, some (⟨[.v (.int .i64 4)], t, ob, false⟩ : Blk)]) = some (.g (.a (.v (.int .i64 0))), []) →
      (bndB (startT Tryz.f48 [.g (.a (.s 0 56 cap)), I1 .i64 lo, .g (.a (.s 1 1 c2))]) [none, some (⟨[.v (.int .i64 4)], t, ob, false⟩ : Blk)] && justRead [none, some (⟨[.v (.int .i64 4)], t, ob, false⟩ : Blk)] && noIds (.g (.a (.v (.int .i64 0))))) = true →
      Does Tryz.prog 48 (argsV ρ [.g (.a (.s k 56 cap)), I1 .i64 lo, .g (.a (.s k2 1 c2))]) w fun v w' => v = (AV.g (.a (.v (.int .i64 0)))).val ρ ∧ Below w.heap.size w w' := fun k k2 cap c2 t ob w1 lo hk h hb =>
    read_run hm spOk_nil fun48 false 100 (H := [none, some (⟨[.v (.int .i64 4)], t, ob, false⟩ : Blk)]) (ρ := fun i => ρ (sel2 k k2 i)) h met0 hb fun i b hi => by
      match i, hi with
      | 0, hi => cases hi
      | 1, hi =>
        obtain rfl := Option.some.inj hi
        obtain ⟨rest, hr, hh⟩ := hR.holds _ _ hk
        exact ⟨⟨rest, hr, hh⟩, hR.lt hk⟩
  split at ho
  · rename_i k cap lo k2 c2
    split at ho
    · rename_i h2
      obtain ⟨t, ob, w1, hk⟩ := oneI_spec h2
      obtain rfl := Option.some.inj ho
      exact does_ref hR (run k k2 cap c2 t ob w1 1 (hV _ _ hk) (by kernel_rfl) (by kernel_rfl))
    · rename_i h2
      obtain ⟨t, ob, w1, hk⟩ := oneI_spec h2
      obtain rfl := Option.some.inj ho
      exact does_ref hR (run k k2 cap c2 t ob w1 2 (hV _ _ hk) (by kernel_rfl) (by kernel_rfl))
    · cases ho
  · cases ho

/-- A function that makes one block of its own and answers a value that may name it. -/
theorem does_new2 {P : Program} {f : FuncId} {fn : Func} (hf : Fun P f fn) {args : Array Value} {w0 : Base} {w : World} {ρ : Rho} {H : View} (hR : Ref w0 ρ w H) {kn : Nat} (hn : H kn = none) (hfx : ∀ k b, H k = some b → kn ∉ idsA b.cs) {b : Blk} (hown : b.own = true) {r : AV}
    (h : Calls P f args w fun e w' => ∃ g c, e = .returned (r.val (put1 ρ kn g c)) ∧ Below w.heap.size w w' ∧ w.heap.size ≤ g ∧ Holds (put1 ρ kn g c) w' kn b) :
    Does P f args w fun v w' => ∃ ρ', (∀ k, k ≠ kn → ρ' k = ρ k) ∧ v = r.val ρ' ∧ Ref w0 ρ' w' (updH H [(kn, b)]) := by
  refine .inl ⟨enters_of hf.at_ hf.name hf.body _ _, h.mono ?_⟩
  rintro e w' ⟨g, c, rfl, hb, hg, hh⟩
  exact ⟨_, rfl, put1 ρ kn g c, fun k hk => put1_ne _ hk, rfl, hR.new hn hfx hown hb hg hh⟩
theorem fun73 : Fun Tryz.prog 73 Tryz.f73 := ⟨Tryz.func73, by kernel_rfl, by kernel_rfl⟩
def e73 : Ent := ⟨73, fun args _ kn => match args with
  | [.g (.a (.s k 56 cap))] => some ⟨.g (.a (.c 101 [] [kn])), [(kn, ⟨[.s k 56 cap], 34, false, true⟩)], []⟩
  | _ => none⟩
theorem e73_ok : EntOk Tryz.prog e73 := fun args V kn o ho hob w0 ρ w H hR hV hn hf hfx => by
  unfold e73 at ho
  simp only at ho
  split at ho
  · rename_i k cap
    obtain rfl := Option.some.inj ho
    refine does_new2 fun73 hR hn hf rfl ?_
    have h := runFn_sound (args := [.g (.a (.s 0 56 cap))]) (H := [none]) (r := .g (.a (.c 101 [] [1]))) (st := ⟨mkA [(0, .g (.a (.s 0 56 cap))), (1, ptr 1), (2, .g (.a (.c 101 [] [1]))), (3, .g (.a (.c 101 [] [1])))] 4 0, [none, some ⟨[.s 0 56 cap], 34, false, true⟩], []⟩) hm spOk_nil fun73.at_ (sy := false) (n := 20) (by kernel_rfl) met0 (bndB_spec (by kernel_rfl)) (read_ref (w := w) (ρ := fun _ => ρ k) rfl none_holds)
    refine h.mono ?_
    rintro e w' ⟨ρ', hρ', _, rfl, hR', _⟩
    have h0 : ρ' 0 = ρ k := hρ' 0 (by show 0 < 1; decide)
    have hkn : kn ≠ k := fun e => hfx (by rw [← e]; simp [idsL, AV.ids, AV.atoms, G.atoms, idsA, At.ids])
    obtain ⟨rest, hr, hh⟩ := hR'.holds 1 _ rfl
    refine ⟨(ρ' 1).1, (ρ' 1).2, ?_, hR'.below, hR'.own 1 _ rfl rfl, rest, hr, ?_⟩
    · simp [AV.val, G.val, At.val, put1_self]
    · rw [put1_self, hh]
      simp only [flat, List.flatMap_cons, List.flatMap_nil, At.cells, At.val, h0, put1_ne ρ hkn.symm]
  · cases ho
end Go.Proofs.YtkiaodihfofbnaaGreatDoor.X
namespace Go.Proofs.YtkiaodihfofbnaaGreatDoor.X
open Go Go.RowKit
set_option maxRecDepth 100000

theorem rwT57 : RwT Tryz.prog (rwI .i64) 57 3 8 := rwT_of (by kernel_rfl) (by kernel_rfl)
noncomputable def loop49 : Code := match tailS 4 ((Tryz.f49.body).getD .skip) with
  | .seq (.seq _ (.block _ (.loop c))) _ => c
  | _ => .skip
abbrev T49 (cap : Option Nat) (s : AV) (i : Int) : List (Option AV) := mkA [(0, .g (.a (.s 0 56 cap))), (1, I1 .i64 4), (7, .g (.a (.c 101 [] [2]))), (8, s), (21, I1 .i64 112), (22, I1 .i64 i)] 36 0
abbrev H49 (l : List Int) (t : TypeId) (cap : Option Nat) (r : Option Blk) : List (Option Blk) := [some (rowBlk l t), r, some ⟨[.s 0 56 cap], 34, false, true⟩]
def plainL (l : List Int) (n : Nat) : List Int := (List.range n).map fun (i : Nat) => winW l (4 * (i : Int))
theorem plainL_succ (l : List Int) (n : Nat) : plainL l (n + 1) = plainL l n ++ [winW l (4 * (n : Int))] := by unfold plainL; rw [List.range_succ, List.map_append]; rfl
theorem plainL_len (l : List Int) (n : Nat) : (plainL l n).length = n := by unfold plainL; simp
theorem sp49 : SpOk Tryz.prog (spOf [e48, e73, e74, e75]) := spOk_cons e48_ok (spOk_cons e73_ok (spOk_cons e74_ok (spOk_cons e75_ok spOk_nil)))
theorem round49 (w0 : Base) {l : List Int} (hb : Bytes256 l) (hl : l.length = 56) (t : TypeId) (cap : Option Nat) (i : Nat) (hi : i < 112) (z : List Int) (hz : z.length = i) {a0 : Act} {w : World} {Q : Exit → Act → World → Prop}
    (h : Grows w0 (rwI .i64) 3 1 (fun s r => ⟨T49 cap s i, H49 l t cap r, []⟩) z a0 w)
    (hk : ∀ a' w', Grows w0 (rwI .i64) 3 1 (fun s r => ⟨T49 cap s ((i + 1 : Nat) : Int), H49 l t cap r, []⟩) (z ++ [winW l (4 * (i : Int))]) a' w' → Q .normal a' w') : loop49.wp Tryz.prog Q a0 w := by
  obtain ⟨ρ, s, r, hs, hsr⟩ := grows_cases h
  refine toS_sound (sy := ⟨true, [(23, .bool true)]⟩) (m := 20) (n := 2) (ts := [0, 1, 7, 8, 21, 22]) (ks := [0, 1, 2]) (hl := 3) (st' := ⟨T49 cap s i, H49 l t cap r, [Value.bool (decide ((i : Int) < 112)) = Value.bool true]⟩) hm sp49 (by rcases hsr with ⟨rfl, rfl, rfl⟩ | ⟨sp, rfl, rfl, _⟩ <;> kernel_rfl) (fun p hp => by rw [List.mem_singleton.1 hp, decide_eq_true (by omega)]) hs fun ρ1 a1 w1 hρ1 s1 => ?_
  refine wp_seq (wp_block (wp_seq ?_))
  refine toA_sound (st := ⟨T49 cap s i, H49 l t cap r, []⟩) (sy := false) (n := 20) (ts := [0, 1, 7, 8, 9, 21, 22]) (ks := [0, 1, 2]) (hl := 3) (ex := .normal) (st' := ⟨mkA [(0, .g (.a (.s 0 56 cap))), (1, I1 .i64 4), (7, .g (.a (.c 101 [] [2]))), (8, s), (9, I1 .i64 i), (21, I1 .i64 112), (22, I1 .i64 i)] 36 0, H49 l t cap r, []⟩) hm sp49 (by rcases hsr with ⟨rfl, rfl, rfl⟩ | ⟨sp, rfl, rfl, _⟩ <;> kernel_rfl) met0 ⟨s1.bnd, s1.rel, s1.ref⟩ fun ρ2 a2 w2 hρ2 s2 => ?_
  refine region_append (st := ⟨mkA [(0, .g (.a (.s 0 56 cap))), (1, I1 .i64 4), (7, .g (.a (.c 101 [] [2]))), (8, s), (9, I1 .i64 i), (21, I1 .i64 112), (22, I1 .i64 i)] 36 0, H49 l t cap r, []⟩) sp49 (rwI .i64) rwT57 8 (s := 25) (x := 32) (d := 33) (k := 1) (sy := ⟨true, [(29, .int .i64 (4 * (i : Int)))]⟩)
    (T1 := mkA [(0, .g (.a (.s 0 56 cap))), (1, I1 .i64 4), (7, .g (.a (.c 101 [] [2]))), (8, s), (9, I1 .i64 i), (21, I1 .i64 112), (22, I1 .i64 i), (25, s), (26, .g (.a (.c 101 [] [2]))), (27, I1 .i64 i), (28, I1 .i64 4), (29, I1 .i64 (4 * (i : Int))), (30, I1 .i64 4), (31, I1 .i64 (winW l (4 * (i : Int)))), (32, .g (.a (.s 3 1 (some 1))))] 36 0)
    (H1 := H49 l t cap r ++ [some ⟨[.v (.int .i64 (winW l (4 * (i : Int))))], 3, false, true⟩]) (O1 := [Bytes256 l, 0 ≤ 4 * (i : Int) ∧ 4 * (i : Int) + 3 < 448, l.length = 56, Value.int .i64 (IntKind.i64.wrap ((i : Int) * 4)) = Value.int .i64 (4 * (i : Int))]) rfl rfl rfl rfl (by rcases hsr with ⟨rfl, rfl, rfl⟩ | ⟨sp, rfl, rfl, _⟩ <;> kernel_rfl) (fun p hp => by
      simp only [List.mem_cons, List.not_mem_nil, or_false] at hp
      rcases hp with rfl | rfl | rfl | rfl
      · exact hb
      · omega
      · exact hl
      · rw [wrap_in (by omega), Int.mul_comm])
    (n := z.length) (m := 1) (l := z) (ns := [winW l (4 * (i : Int))]) rfl rfl (by decide) ⟨s2.bnd, s2.rel, s2.ref⟩ ?_ (kb := 3) (c := some 1) rfl rfl (fun ρ => ⟨[], rfl⟩) ?_ (by show (z.length + 1) * 8 ≤ _; omega) (by omega) ?_
  · rcases hsr with ⟨rfl, rfl, rfl⟩ | ⟨sp, rfl, rfl, hc⟩
    · exact .inl ⟨rfl, rfl⟩
    · exact .inr (.inr ⟨sp, rfl, rfl, by rw [hρ2 1 (show 1 < 3 by decide), hρ1 1 (show 1 < 3 by decide)]; exact hc⟩)
  · rcases hsr with ⟨rfl, rfl, rfl⟩ | ⟨sp, rfl, rfl, hc⟩ <;> kernel_rfl
  · intro sp' ρ3 a3 w3 hc3 _ s3
    refine restA_sound (sy := false) (ts := [0, 1, 7, 8, 21, 22]) (ks := [0, 1, 2]) (hl := 3) (st' := ⟨T49 cap (rowS 1 (z.length + 1)) i, H49 l t cap (some (blk2 (rwI .i64) 3 (z ++ [winW l (4 * (i : Int))]) sp')), []⟩) sp49 (st := grownSt (rwI .i64) _ _ [] _ _ _ _ _ _) (by rcases hsr with ⟨rfl, rfl, rfl⟩ | ⟨sp, rfl, rfl, _⟩ <;> kernel_rfl) met0 ⟨s3.bnd, s3.rel, s3.ref⟩ fun ρ4 a4 w4 hρ4 s4 => ?_
    refine toA_sound (sy := ⟨true, [(34, .int .i64 ((i + 1 : Nat) : Int))]⟩) (n := 20) (ts := [0, 1, 7, 8, 21, 22]) (ks := [0, 1, 2]) (hl := 3) (ex := .normal) (st' := ⟨T49 cap (rowS 1 (z.length + 1)) ((i + 1 : Nat) : Int), H49 l t cap (some (blk2 (rwI .i64) 3 (z ++ [winW l (4 * (i : Int))]) sp')), [Value.int .i64 (IntKind.i64.wrap ((i : Int) + 1)) = Value.int .i64 ((i + 1 : Nat) : Int)]⟩) hm sp49 (by kernel_rfl) (fun p hp => by rw [List.mem_singleton.1 hp, wrap_in (by omega)]; rfl) s4 fun ρ5 a5 w5 hρ5 s5 => ?_
    refine hk a5 w5 (.inr ⟨ρ5, sp', ?_, ?_⟩)
    · show (ρ5 1).2 = (z ++ [winW l (4 * (i : Int))] : List Int).length + List.length (α := Int) sp'
      rw [hρ5 1 (show 1 < 3 by decide), hρ4 1 (show 1 < 4 by decide), List.length_append]; exact hc3
    · have e : (z ++ [winW l (4 * (i : Int))] : List Int).length = z.length + 1 := List.length_append ..
      show StOk w0 ρ5 ⟨T49 cap (rowS 1 (z ++ [winW l (4 * (i : Int))] : List Int).length) ((i + 1 : Nat) : Int), _, _⟩ a5 w5
      rw [e]; exact ⟨s5.bnd, s5.rel, s5.ref⟩
theorem fun49 : Fun Tryz.prog 49 Tryz.f49 := ⟨Tryz.func49, by kernel_rfl, by kernel_rfl⟩
theorem plain_calls {l : List Int} (hb : Bytes256 l) (hl : l.length = 56) (t : TypeId) (cap : Option Nat) {w : World} {ρ : Rho} (hR : Ref w ρ w (lk [some (rowBlk l t)])) :
    Calls Tryz.prog 49 (argsV ρ [.g (.a (.s 0 56 cap)), I1 .i64 4]) w fun e w' => ∃ ρ' sp, (ρ' 1).2 = 112 + List.length (α := Int) sp ∧ e = .returned ((AV.tup [.a (.s 1 112 none), .a (.v (.int .i64 0))]).val ρ') ∧ Ref w ρ' w' (lk [none, some (blk2 (rwI .i64) 3 (plainL l 112) sp)]) := by
  refine fun_wp (H := [some (rowBlk l t)]) fun49.at_ (c := (Tryz.f49.body).getD .skip) rfl (by kernel_rfl) hR fun a hs => ?_
  refine toS_sound (sy := false) (m := 20) (n := 4) (ts := [0, 1, 7, 8]) (ks := [0, 2]) (hl := 3) (st' := ⟨mkA [(0, .g (.a (.s 0 56 cap))), (1, I1 .i64 4), (7, .g (.a (.c 101 [] [2]))), (8, nilS)] 36 0, H49 l t cap none, []⟩) hm sp49 (by kernel_rfl) met0 hs fun ρ1 a1 w1 _ s1 => ?_
  refine wp_seq (wp_seq ?_)
  refine toA_sound (sy := false) (n := 20) (ts := [0, 1, 7, 8, 21, 22]) (ks := [0, 2]) (hl := 3) (ex := .normal) (st' := ⟨T49 cap nilS ((0 : Nat) : Int), H49 l t cap none, []⟩) hm sp49 (by kernel_rfl) met0 s1 fun ρ2 a2 w2 _ s2 => ?_
  refine wp_block (wp_loop_up 112 (fun i a w' => Grows w (rwI .i64) 3 1 (fun s r => ⟨T49 cap s (i : Int), H49 l t cap r, []⟩) (plainL l i) a w') (.inl ⟨rfl, ρ2, s2⟩) (fun i hi a w' h => round49 w hb hl t cap i hi (plainL l i) (plainL_len l i) h fun a' w' h' => by rw [← plainL_succ] at h'; exact h') (fun a w' h => ?_))
  obtain ⟨ρ3, s', r', hs3, hsr3⟩ := grows_cases h
  have hlen := plainL_len l 112
  rcases hsr3 with ⟨_, _, h0⟩ | ⟨sp, rfl, rfl, hc⟩
  · have : (plainL l 112).length = 0 := by rw [h0]; rfl
    omega
  · replace hs3 : StOk w ρ3 ⟨T49 cap (rowS 1 (plainL l 112).length) ((112 : Nat) : Int), H49 l t cap (some (blk2 (rwI .i64) 3 (plainL l 112) sp)), []⟩ a w' := hs3
    replace hc : (ρ3 1).2 = (plainL l 112).length + List.length (α := Int) sp := hc
    rw [hlen] at hs3 hc
    refine toA_sound (sy := false) (n := 20) (ts := [0, 1, 7, 8, 21, 22]) (ks := [0, 1, 2]) (hl := 3) (ex := .exit 0) (st' := ⟨T49 cap (rowS 1 112) ((112 : Nat) : Int), H49 l t cap (some (blk2 (rwI .i64) 3 (plainL l 112) sp)), []⟩) hm sp49 (by kernel_rfl) met0 hs3 fun ρ4 a4 w4 hρ4 s4 => ?_
    refine toA_sound (sy := false) (n := 20) (ts := [4, 5]) (ks := [1]) (hl := 2) (ex := .ret) (st' := ⟨mkA [(4, rowS 1 112), (5, .g (.a (.v (.int .i64 0))))] 36 0, [none, some (blk2 (rwI .i64) 3 (plainL l 112) sp)], []⟩) hm sp49 (by kernel_rfl) met0 s4 fun ρ5 a5 w5 hρ5 s5 => ?_
    exact fun_end s5 (l := [.a (.s 1 112 none), .a (.v (.int .i64 0))]) (by kernel_rfl) ⟨ρ5, sp, by rw [hρ5 1 (show 1 < 3 by decide), hρ4 1 (show 1 < 3 by decide)]; exact hc, rfl, s5.ref⟩ (.inl rfl)
end Go.Proofs.YtkiaodihfofbnaaGreatDoor.X
namespace Go.Proofs.YtkiaodihfofbnaaGreatDoor.X
open Go Go.RowKit
set_option maxRecDepth 100000

theorem region_op {P : Program} {sp : Sp} (hsp : SpOk P sp) {sy : Md} {w0 : Base} {Q : Exit → Act → World → Prop} {id : Nat} {ops : Array Oper} (q : Nat) {o : Oper} (ho : ops.toList[q]? = some o) (hg : o.guard = none)
    {st : St} {T1 : List (Option AV)} {H1 : List (Option Blk)} {O1 : List Prop} (h1 : runSeq P sp sy ops.toList (ops.toList.take q) st.T st.H st.ob = some (T1, H1, O1)) (hob : Met O1) {ρ : Rho} {a : Act} {w : World} (hs : StOk w0 ρ st a w)
    (hop : ∀ ρ1 a1 w1, (∀ k, k < st.H.length → ρ1 k = ρ k) → StOk w0 ρ1 ⟨T1, H1, O1⟩ a1 w1 → o.wp P a1 w1 (wpOps P ops Q (List.range' (q + 1) (ops.size - (q + 1)))) Q) : (Code.region id ops false).wp P Q a w := by
  refine wp_region ?_
  have hq : q < ops.toList.length := (List.getElem?_eq_some_iff.1 ho).1
  have hsplit : ops.toList.drop 0 = ops.toList.take q ++ (o :: ops.toList.drop (q + 1)) := by
    have : o :: ops.toList.drop (q + 1) = ops.toList.drop q := by
      rw [← List.getElem_cons_drop hq]
      rw [(List.getElem?_eq_some_iff.1 ho).2]
    rw [this, List.take_append_drop]; rfl
  have key := runSeq_pre (w0 := w0) (Q := Q) hsp (ops.toList.take q) 0 (o :: ops.toList.drop (q + 1)) st.T T1 st.H H1 st.ob O1 ρ a w hsplit h1 hob hs.bnd hs.rel hs.ref fun ρ1 a1 w1 e1 e2 e3 e4 e5 e6 => ?_
  · rw [← hsplit, List.drop_zero, Array.toArray_toList] at key
    rw [List.range_eq_range', ← Array.length_toList]
    exact key
  · rw [Array.toArray_toList, List.length_cons, List.range'_succ, wpOps_cons]
    have hlt : (ops.toList.take q).length = q := by rw [List.length_take]; omega
    rw [Nat.zero_add, hlt]
    unfold wpOp
    have hoq : ops[q]? = some o := by rw [← Array.getElem?_toList]; exact ho
    simp only [hoq]
    have hw : Region.wanted o (yielded ops a1.tmps) = true := by unfold Region.wanted; rw [hg]
    rw [if_pos hw]
    have h2 : (ops.toList.drop (q + 1)).length = ops.size - (q + 1) := by rw [List.length_drop, Array.length_toList]
    rw [h2]
    exact .inl (hop ρ1 a1 w1 e1 ⟨e2, e5, e6⟩)
/-- A call that is entered. -/
theorem call_wp {P : Program} {o : Oper} {f : Operand} {args : Array Operand} {ats : Array TypeId} (hop : o.op = .call { callee := .value f, args := args, argTypes := ats }) {T : TV} {ρ : Rho} {a : Act} {n : Nat} (hr : Rel ρ a n T) {xf : AV} {xargs : List AV} (hf : evalT T f = some xf) (hargs : operandsT T args.toList = some xargs)
    {g : FuncId} {first caps : List AV} (hfn : fnOf xf = some (g, first, caps)) {fn : Func} (hfun : Fun P g fn) {w : World} {next : Act → World → Prop} {Q : Exit → Act → World → Prop} (hc : Calls P g (argsV ρ (first ++ xargs ++ caps)) w fun e w' => ∃ v, e = .returned v ∧ next (a.put o.dst v) w') : o.wp P a w next Q := by
  have hx1 := evalT_sound hr hf
  have hx2 := operandsT_sound hr hargs
  have hargs' : args.map a.eval = argsV ρ xargs := by
    apply Array.toList_inj.1
    simpa [argsV] using hx2
  have he : argsV ρ (first ++ xargs ++ caps) = (argsV ρ first ++ args.map a.eval) ++ argsV ρ caps := by
    rw [hargs']
    simp [argsV]
  have hent := enters_of hfun.at_ hfun.name hfun.body (argsV ρ (first ++ xargs ++ caps)) w
  have hrun : (execOp a.eval o).run P w = .ok (.enter g (argsV ρ (first ++ xargs ++ caps))) w := by
    rw [he] at hent ⊢
    simp only [execOp, hop, resolve, hx1, fnOf_spec hfn ρ]
    refine (run_ok (s := Deferred.ofValue (.func (.func g) (argsV ρ first) (argsV ρ caps)) (args.map a.eval)) (a := { target := .fn (.func g) (argsV ρ caps), args := argsV ρ first ++ args.map a.eval }) (w' := w) rfl).trans ?_
    exact hent
  unfold Oper.wp
  rw [hrun, Oper.upon_enter]
  refine hc.mono ?_
  rintro e w' ⟨v, rfl, h⟩
  exact h
/-- The state once a call has answered with a block of its own. -/
theorem StOk.newV {w0 : Base} {ρ : Rho} {T : List (Option AV)} {H : List (Option Blk)} {O : List Prop} {a : Act} {w w' : World} (hs : StOk w0 ρ ⟨T, H, O⟩ a w) {d : Nat} (hd : d < T.length) {v : AV} {b : Blk} (hown : b.own = true) {g c : Nat} (hb : Below w.heap.size w w') (hg : w.heap.size ≤ g) (hh : Holds (put1 ρ H.length g c) w' H.length b)
    (hi : (ltAll (setH H [(H.length, b)]).length v.ids && ltAll (setH H [(H.length, b)]).length (effIds [(H.length, b)])) = true) :
    StOk w0 (put1 ρ H.length g c) ⟨setT T ⟨some d, v, [(H.length, b)], [], []⟩, setH H [(H.length, b)], O⟩ (a.put (some d) (v.val (put1 ρ H.length g c))) w' := by
  rw [Bool.and_eq_true] at hi
  have hdl : ∀ d', (⟨some d, v, [(H.length, b)], [], []⟩ : Rec).dst = some d' → d' < T.length := fun d' h => by obtain rfl := Option.some.inj h; exact hd
  refine ⟨?_, ?_, ?_⟩
  · exact hs.bnd.upd (r := ⟨some d, v, [(H.length, b)], [], []⟩) hdl hi.1 hi.2
  · show Rel _ _ (setT T ⟨some d, v, [(H.length, b)], [], []⟩).length (lk (setT T ⟨some d, v, [(H.length, b)], [], []⟩))
    rw [length_setT, lk_setT hdl]
    exact Rel.put (kn := H.length) hs.rel (fun k hk => put1_ne _ hk) (fun t u hu hm' => Nat.lt_irrefl _ (hs.bnd.tv t u hu _ hm')) (fun d' h => hdl d' h)
  · show Ref w0 _ w' (lk (setH H [(H.length, b)]))
    rw [lk_setH]
    exact hs.ref.new (lk_none (Nat.le_refl _)) (fun k b' hk hm' => Nat.lt_irrefl _ (hs.bnd.hv k b' hk _ hm')) hown hb hg hh

/-! ### Signed digits -/
def cyW (v : Int) : Int := IntKind.i64.wrap ((IntKind.i64.wrap (v.fdiv (2 ^ 3) + 1)).tdiv 2)
def sgS (l : List Int) : Nat → List Int × Int
  | 0 => ([], 0)
  | i + 1 =>
    let v := IntKind.i64.wrap (l.getD i 0 + (sgS l i).2)
    ((sgS l i).1 ++ [IntKind.i64.wrap (v - IntKind.i64.wrap (cyW v * 2 ^ 4))], cyW v)
theorem sgS_len (l : List Int) : ∀ i, (sgS l i).1.length = i
  | 0 => rfl
  | i + 1 => by rw [sgS, List.length_append, sgS_len l i]; rfl
noncomputable def loop23 : Code := match tailS 5 ((Tryz.f23.body).getD .skip) with
  | .seq (.seq _ (.block _ (.loop c))) _ => c
  | _ => .skip
abbrev T23 (c i : Int) : List (Option AV) := mkA [(1, I1 .i64 4), (7, rowS 1 112), (9, I1 .i64 c), (28, I1 .i64 112), (29, I1 .i64 i)] 63 0
abbrev H23 (z : List Int) : List (Option Blk) := [none, some ⟨[.r .i64 z], 3, false, true⟩]
/-- What a round makes of the row and of what is carried, as the program reckons it. -/
def rowW (z : List Int) (n : Nat) (c : Int) : List Int × Int :=
  let z1 := z.set n (IntKind.i64.wrap (z.getD n 0 + c))
  (z1.set n (IntKind.i64.wrap (z1.getD n 0 - IntKind.i64.wrap (cyW (z1.getD n 0) * 2 ^ 4))), cyW (z1.getD n 0))
def ob23 (z : List Int) (n : Nat) (i c : Int) : List Prop :=
  let z1 := z.set n (IntKind.i64.wrap (z.getD n 0 + c))
  let r := 0 ≤ i ∧ i < ((112 : Nat) : Int)
  [r, n < z1.length, r, n < z1.length, n < z1.length, r, n < z.length, r, n < z.length, r]
theorem body23_run (z : List Int) (c i : Int) :
    (match tailS 2 loop23 with | .seq x _ => toA Tryz.prog (spOf []) ⟨true, []⟩ 30 x ⟨T23 c i, H23 z, []⟩ [1, 7, 9, 28, 29] [1] 2 | _ => none) = some (.normal, ⟨T23 (rowW z (i.toNat * 1) c).2 i, H23 (rowW z (i.toNat * 1) c).1, ob23 z (i.toNat * 1) i c⟩) := by kernel_rfl
theorem getD_mid (a : List Int) (y : Int) (r : List Int) : (a ++ y :: r).getD a.length 0 = y := by
  rw [List.getD_eq_getElem?_getD, List.getElem?_append_right (Nat.le_refl _), Nat.sub_self]; rfl
theorem set_mid (a : List Int) (y x : Int) (r : List Int) : (a ++ y :: r).set a.length x = a ++ x :: r := by
  rw [List.set_append_right _ _ (Nat.le_refl _), Nat.sub_self]; rfl
theorem rowW_mid (a : List Int) (y : Int) (r : List Int) (c : Int) : rowW (a ++ y :: r) a.length c =
    (a ++ IntKind.i64.wrap (IntKind.i64.wrap (y + c) - IntKind.i64.wrap (cyW (IntKind.i64.wrap (y + c)) * 2 ^ 4)) :: r, cyW (IntKind.i64.wrap (y + c))) := by
  unfold rowW
  simp only [getD_mid, set_mid]
theorem rowW_next {l : List Int} (hl : l.length = 112) (sp : List Int) {i : Nat} (hi : i < 112) : rowW ((sgS l i).1 ++ (l ++ sp).drop i) i (sgS l i).2 = ((sgS l (i + 1)).1 ++ (l ++ sp).drop (i + 1), (sgS l (i + 1)).2) := by
  have h1 : i < (l ++ sp).length := by rw [List.length_append]; omega
  have h2 : (l ++ sp).drop i = l.getD i 0 :: (l ++ sp).drop (i + 1) := by
    rw [← List.getElem_cons_drop h1, List.getElem_append_left (by omega), List.getD_eq_getElem?_getD, List.getElem?_eq_getElem (by omega)]; rfl
  have h3 := rowW_mid (sgS l i).1 (l.getD i 0) ((l ++ sp).drop (i + 1)) (sgS l i).2
  rw [sgS_len] at h3
  rw [h2, h3, sgS]
  simp only [List.append_assoc, List.cons_append, List.nil_append]
theorem round23 (w0 : Base) {l sp : List Int} (hl : l.length = 112) (i : Nat) (hi : i < 112) {a0 : Act} {w : World} {ρ : Rho} (hs : StOk w0 ρ ⟨T23 (sgS l i).2 i, H23 ((sgS l i).1 ++ (l ++ sp).drop i), []⟩ a0 w) {Q : Exit → Act → World → Prop}
    (hk : ∀ ρ' a' w', ρ' 1 = ρ 1 → StOk w0 ρ' ⟨T23 (sgS l (i + 1)).2 ((i + 1 : Nat) : Int), H23 ((sgS l (i + 1)).1 ++ (l ++ sp).drop (i + 1)), []⟩ a' w' → Q .normal a' w') : loop23.wp Tryz.prog Q a0 w := by
  have hz : i < ((sgS l i).1 ++ (l ++ sp).drop i).length := by rw [List.length_append, sgS_len, List.length_drop, List.length_append]; omega
  have hn := rowW_next hl sp hi
  generalize (sgS l i).1 ++ (l ++ sp).drop i = z at *
  generalize (sgS l i).2 = c at *
  refine toS_sound (sy := ⟨true, [(30, .bool true)]⟩) (m := 20) (n := 2) (ts := [1, 7, 9, 28, 29]) (ks := [1]) (hl := 2) (st' := ⟨T23 c i, H23 z, [Value.bool (decide ((i : Int) < 112)) = Value.bool true]⟩) hm spOk_nil (by kernel_rfl) (fun p hp => by rw [List.mem_singleton.1 hp, decide_eq_true (by omega)]) hs fun ρ1 a1 w1 hρ1 s1 => ?_
  have hr := body23_run z c i
  rw [Int.toNat_natCast, Nat.mul_one] at hr
  refine wp_seq ?_
  refine toA_sound (st := ⟨T23 c i, H23 z, []⟩) hm spOk_nil hr (fun p hp => ?_) ⟨s1.bnd, s1.rel, s1.ref⟩ fun ρ2 a2 w2 hρ2 s2 => ?_
  · simp only [ob23, List.mem_cons, List.not_mem_nil, or_false, List.length_set] at hp
    rcases hp with rfl | rfl | rfl | rfl | rfl | rfl | rfl | rfl | rfl | rfl <;> first | exact hz | omega
  · rw [hn] at s2
    refine toA_sound (st := ⟨T23 (sgS l (i + 1)).2 i, H23 ((sgS l (i + 1)).1 ++ (l ++ sp).drop (i + 1)), []⟩) (sy := ⟨true, [(58, .int .i64 ((i + 1 : Nat) : Int))]⟩) (n := 20) (ts := [1, 7, 9, 28, 29]) (ks := [1]) (hl := 2) (ex := .normal) (st' := ⟨T23 (sgS l (i + 1)).2 ((i + 1 : Nat) : Int), H23 ((sgS l (i + 1)).1 ++ (l ++ sp).drop (i + 1)), [Value.int .i64 (IntKind.i64.wrap ((i : Int) + 1)) = Value.int .i64 ((i + 1 : Nat) : Int)]⟩) hm spOk_nil (by
        generalize (sgS l (i + 1)).1 ++ (l ++ sp).drop (i + 1) = z'
        generalize (sgS l (i + 1)).2 = c'
        kernel_rfl) (fun p hp => by rw [List.mem_singleton.1 hp, wrap_in (by omega)]; rfl) ⟨s2.bnd, s2.rel, s2.ref⟩ fun ρ3 a3 w3 hρ3 s3 => ?_
    exact hk ρ3 a3 w3 ((hρ3 1 (show 1 < 2 by decide)).trans ((hρ2 1 (show 1 < 2 by decide)).trans (hρ1 1 (show 1 < 2 by decide)))) ⟨s3.bnd, s3.rel, s3.ref⟩

def signedL (l : List Int) : List Int := (sgS (plainL l 112) 112).1 ++ [(sgS (plainL l 112) 112).2]
theorem signedL_len (l : List Int) : (signedL l).length = 113 := by unfold signedL; rw [List.length_append, sgS_len]; rfl
theorem rows_one (k : IntKind) (ρ ρ' : Rho) (l sp : List Int) : flat ρ [(rwI k).at_ l, (rwI k).at_ sp] = flat ρ' [.r k (l ++ sp)] := by
  simp [flat, At.cells, rwI, List.map_append]
theorem fun23 : Fun Tryz.prog 23 Tryz.f23 := ⟨Tryz.func23, by kernel_rfl, by kernel_rfl⟩
theorem sp23 : SpOk Tryz.prog (spOf [e48]) := spOk_cons e48_ok spOk_nil
theorem signed_calls {l : List Int} (hb : Bytes256 l) (hl : l.length = 56) (t : TypeId) (cap : Option Nat) {w : World} {ρ : Rho} (hR : Ref w ρ w (lk [some (rowBlk l t)])) :
    Calls Tryz.prog 23 (argsV ρ [.g (.a (.s 0 56 cap)), I1 .i64 4]) w fun e w' => ∃ ρ', e = .returned ((AV.tup [.a (.s 1 113 none), .a (.v (.int .i64 0))]).val ρ') ∧ Ref w ρ' w' (lk [none, some (⟨[.r .i64 (signedL l)], 3, true, true⟩ : Blk)]) := by
  have hpl := plainL_len l 112
  refine fun_wp (H := [some (rowBlk l t)]) fun23.at_ (c := (Tryz.f23.body).getD .skip) rfl (by kernel_rfl) hR fun a hs => ?_
  refine toS_sound (sy := false) (m := 20) (n := 2) (ts := [0, 1]) (ks := [0]) (hl := 1) (st' := ⟨mkA [(0, .g (.a (.s 0 56 cap))), (1, I1 .i64 4)] 63 0, [some (rowBlk l t)], []⟩) hm sp23 (by kernel_rfl) met0 hs fun ρ1 a1 w1 _ s1 => ?_
  refine wp_seq ?_
  refine region_op (sy := false) sp23 2 rfl rfl (T1 := mkA [(0, .g (.a (.s 0 56 cap))), (1, I1 .i64 4), (19, .g (.a (.s 0 56 cap))), (20, I1 .i64 4)] 63 0) (H1 := [some (rowBlk l t)]) (O1 := []) (by kernel_rfl) met0 s1 fun ρ2 a2 w2 _ s2 => ?_
  refine call_wp rfl s2.rel (xf := .g (.a (.v (.func (.func 49) #[] #[])))) (xargs := [.g (.a (.s 0 56 cap)), I1 .i64 4]) rfl rfl (g := 49) (first := []) (caps := []) rfl fun49 ((plain_calls hb hl t cap (read_ref rfl fun k b hk => ⟨s2.ref.holds k b hk, s2.ref.lt hk⟩)).mono ?_)
  rintro e w3 ⟨ρ3, sp, hc, rfl, hR3⟩
  obtain ⟨rest, hr, hh⟩ := hR3.holds 1 _ rfl
  obtain rfl := hr rfl
  have hv : (AV.tup [.a (.s 1 112 none), .a (.v (.int .i64 0))]).val ρ3 = (AV.tup [.a (.s 1 112 none), .a (.v (.int .i64 0))]).val (put1 ρ2 1 (ρ3 1).1 (ρ3 1).2) := by
    simp [AV.val, G.val, At.val, put1]
  refine ⟨_, rfl, ?_⟩
  rw [hv]
  have s3 := s2.newV (d := 21) (show 21 < 63 by decide) (v := .tup [.a (.s 1 112 none), .a (.v (.int .i64 0))]) (b := ⟨[.r .i64 (plainL l 112 ++ sp)], 3, false, true⟩) rfl (g := (ρ3 1).1) (c := (ρ3 1).2) hR3.below (hR3.own 1 _ rfl rfl) ⟨[], fun _ => rfl, by
    show w3.heap[(put1 ρ2 1 (ρ3 1).1 (ρ3 1).2 1).1]? = _
    rw [put1_self, hh]
    show some (Obj.cells (flat ρ3 [(rwI .i64).at_ (plainL l 112), (rwI .i64).at_ sp] ++ []).toArray 3 (0, 0)) = some (Obj.cells (flat (put1 ρ2 1 (ρ3 1).1 (ρ3 1).2) [.r .i64 (plainL l 112 ++ sp)] ++ []).toArray 3 (0, 0))
    rw [rows_one]⟩ (by kernel_rfl)
  have hcap : (put1 ρ2 1 (ρ3 1).1 (ρ3 1).2 1).2 = 112 + List.length (α := Int) sp := by rw [put1_self]; exact hc
  replace s3 : StOk w (put1 ρ2 1 (ρ3 1).1 (ρ3 1).2) ⟨_, _, []⟩ _ w3 := s3
  generalize put1 ρ2 1 (ρ3 1).1 (ρ3 1).2 = ρ4 at *
  refine restA_sound (sy := false) (q := 3) (ts := [1, 7, 8]) (ks := [1]) (hl := 2) (st' := ⟨mkA [(1, I1 .i64 4), (7, rowS 1 112), (8, .g (.a (.v (.int .i64 0))))] 63 0, H23 (plainL l 112 ++ sp), []⟩) sp23 (by kernel_rfl) met0 s3 fun ρ5 a5 w5 hρ5 s5 => ?_
  refine toS_sound (sy := false) (m := 20) (n := 2) (ts := [1, 7, 9]) (ks := [1]) (hl := 2) (st' := ⟨mkA [(1, I1 .i64 4), (7, rowS 1 112), (9, I1 .i64 0)] 63 0, H23 (plainL l 112 ++ sp), []⟩) hm sp23 (by kernel_rfl) met0 s5 fun ρ6 a6 w6 hρ6 s6 => ?_
  refine wp_seq (wp_seq ?_)
  refine toA_sound (sy := false) (n := 20) (ts := [1, 7, 9, 28, 29]) (ks := [1]) (hl := 2) (ex := .normal) (st' := ⟨T23 0 ((0 : Nat) : Int), H23 (plainL l 112 ++ sp), []⟩) hm sp23 (by kernel_rfl) met0 s6 fun ρ7 a7 w7 hρ7 s7 => ?_
  have hc7 : (ρ7 1).2 = 112 + List.length (α := Int) sp := by rw [hρ7 1 (show 1 < 2 by decide), hρ6 1 (show 1 < 2 by decide), hρ5 1 (show 1 < 2 by decide)]; exact hcap
  refine wp_block (wp_loop_up 112 (fun i a w' => ∃ ρ', (ρ' 1).2 = 112 + List.length (α := Int) sp ∧ StOk w ρ' ⟨T23 (sgS (plainL l 112) i).2 (i : Int), H23 ((sgS (plainL l 112) i).1 ++ (plainL l 112 ++ sp).drop i), []⟩ a w') ⟨ρ7, hc7, s7⟩ ?_ ?_)
  · rintro i hi a w' ⟨ρ', hc', hs'⟩
    exact round23 w hpl i hi hs' fun ρ'' a'' w'' h1 h2 => ⟨ρ'', by rw [h1]; exact hc', h2⟩
  · rintro a8 w8 ⟨ρ8, hc8, s8⟩
    have hdrop : (plainL l 112 ++ sp).drop 112 = sp := by rw [List.drop_append_of_le_length (by omega), List.drop_eq_nil_of_le (by omega)]; rfl
    rw [hdrop] at s8
    have hsl : signedL l = (sgS (plainL l 112) 112).1 ++ [(sgS (plainL l 112) 112).2] := rfl
    have hA := sgS_len (plainL l 112) 112
    generalize (sgS (plainL l 112) 112).1 = A at *
    generalize (sgS (plainL l 112) 112).2 = c at *
    refine toA_sound (sy := false) (n := 20) (ts := [7, 9]) (ks := [1]) (hl := 2) (ex := .exit 0) (st' := ⟨mkA [(7, rowS 1 112), (9, I1 .i64 c)] 63 0, H23 (A ++ sp), []⟩) hm sp23 (by kernel_rfl) met0 s8 fun ρ9 a9 w9 hρ9 s9 => ?_
    have s9' : StOk w ρ9 ⟨mkA [(7, rowS 1 112), (9, I1 .i64 c)] 63 0, [none, some (blk2 (rwI .i64) 3 A sp)], []⟩ a9 w9 := by
      refine ⟨bndB_spec (by kernel_rfl), s9.rel, s9.ref.less fun k b' hk => ?_⟩
      match k, hk with
      | 1, hk =>
        obtain rfl := Option.some.inj hk
        refine ⟨_, rfl, rfl, fun ⟨rest, hr, hh⟩ => ⟨rest, hr, ?_⟩⟩
        rw [hh]
        show some (Obj.cells (flat ρ9 [.r .i64 (A ++ sp)] ++ rest).toArray 3 (0, 0)) = some (Obj.cells (flat ρ9 [(rwI .i64).at_ A, (rwI .i64).at_ sp] ++ rest).toArray 3 (0, 0))
        rw [rows_one .i64 ρ9 ρ9 A sp]
    refine wp_seq ?_
    refine region_append sp23 (rwI .i64) rwT57 3 (s := 59) (x := 61) (d := 62) (k := 1) (sy := false)
      (T1 := mkA [(7, rowS 1 112), (9, I1 .i64 c), (59, rowS 1 112), (60, I1 .i64 c), (61, .g (.a (.s 2 1 (some 1))))] 63 0)
      (H1 := [none, some (blk2 (rwI .i64) 3 A sp), some ⟨[.v (.int .i64 c)], 3, false, true⟩]) (O1 := []) rfl rfl rfl rfl (by kernel_rfl) met0
      (n := 112) (m := 1) (l := A) (ns := [c]) hA rfl (by decide) s9' (.inr (.inr ⟨sp, rfl, rfl, by rw [hρ9 1 (show 1 < 2 by decide)]; exact hc8⟩)) (kb := 2) (c := some 1) rfl rfl (fun ρ => ⟨[], rfl⟩) (by kernel_rfl) (by decide) (by decide) fun sp' ρ10 a10 w10 hc10 _ s10 => ?_
    refine restA_sound (sy := false) (ts := [4, 5]) (ks := [1]) (hl := 2) (st' := ⟨mkA [(4, rowS 1 113), (5, .g (.a (.v (.int .i64 0))))] 63 0, [none, some (blk2 (rwI .i64) 3 (A ++ [c]) sp')], []⟩) sp23 (by kernel_rfl) met0 s10 fun ρ11 a11 w11 hρ11 s11 => ?_
    refine wp_ret ?_
    refine fun_end s11 (l := [.a (.s 1 113 none), .a (.v (.int .i64 0))]) (by kernel_rfl) ⟨ρ11, rfl, s11.ref.less fun k b' hk => ?_⟩ (.inl rfl)
    match k, hk with
    | 1, hk =>
      obtain rfl := Option.some.inj hk
      rw [hsl]
      exact ⟨_, rfl, rfl, holds_row⟩
def e23 : Ent := ⟨23, fun args V kn => match args with
  | [.g (.a (.s k 56 _)), .g (.a (.v (.int .i64 (.ofNat 4))))] => match rowV V 56 k with
    | some (l, ob) => some ⟨.tup [.a (.s kn 113 none), .a (.v (.int .i64 0))], [(kn, ⟨[.r .i64 (signedL l)], 3, true, true⟩)], Bytes256 l :: ob⟩
    | none => none
  | _ => none⟩
theorem e23_ok : EntOk Tryz.prog e23 := fun args V kn o ho hob w0 ρ w H hR hV hn hf hfx => by
  unfold e23 at ho
  simp only at ho
  split at ho
  · rename_i k cap
    split at ho
    · rename_i l ob hl
      obtain rfl := Option.some.inj ho
      have h256 : Bytes256 l := hob _ (List.mem_cons_self ..)
      obtain ⟨b, hk, h56, hfl⟩ := rowV_spec hl (fun p hp => hob p (List.mem_cons_of_mem _ hp))
      refine does_new2 fun23 hR hn hf rfl ?_
      have hh : ∀ i b', lk [some (rowBlk l b.t)] i = some b' → Holds (fun _ => ρ k) w i b' ∧ (ρ k).1 < w.heap.size := fun i b' hi => by
        match i, hi with
        | 0, hi => obtain rfl := Option.some.inj hi; exact row_holds hR (hV _ _ hk) hfl (fun _ => ρ k) 0 rfl
      refine (signed_calls h256 h56 b.t cap (read_ref (w := w) (ρ := fun _ => ρ k) rfl hh)).mono ?_
      rintro e w' ⟨ρ', rfl, hR'⟩
      obtain ⟨rest, hr, hx⟩ := hR'.holds 1 _ rfl
      refine ⟨(ρ' 1).1, (ρ' 1).2, ?_, hR'.below, hR'.own 1 _ rfl rfl, rest, hr, ?_⟩
      · simp [AV.val, G.val, At.val, put1_self]
      · rw [put1_self, hx]; rfl
    · cases ho
  · cases ho
end Go.Proofs.YtkiaodihfofbnaaGreatDoor.X
namespace Go.Proofs.YtkiaodihfofbnaaGreatDoor.X
open Go Go.RowKit
set_option maxRecDepth 100000

theorem rwT60 : RwT Tryz.prog rwP 60 31 192 := rwT_of (by kernel_rfl) (by kernel_rfl)
noncomputable def loop24 : Code := match tailS 2 ((Tryz.f24.body).getD .skip) with
  | .seq (.seq _ (.block _ (.loop c))) _ => c
  | _ => .skip
def tabP (p q : Pt) : Nat → List Pt × Pt
  | 0 => ([], p)
  | n + 1 => ((tabP p q n).1 ++ [(tabP p q n).2], addP (tabP p q n).2 q)
theorem tabP_len (p q : Pt) : ∀ n, (tabP p q n).1.length = n
  | 0 => rfl
  | n + 1 => by rw [tabP, List.length_append, tabP_len p q n]; rfl
abbrev T24 (s : AV) (i : Int) : List (Option AV) := mkA [(3, ptr 0), (4, ptr 1), (7, s), (8, I1 .i64 9), (9, I1 .i64 i)] 20 0
abbrev H24 (c q : Pt) (r : Option Blk) : List (Option Blk) := [some ⟨ptC c, 31, false, true⟩, some ⟨ptC q, 31, false, true⟩, r]
theorem sp24 : SpOk Tryz.prog (spOf [e17]) := spOk_cons e17_ok spOk_nil
theorem round24 (w0 : Base) (c q : Pt) (i : Nat) (hi : i < 9) (z : List Pt) (hz : z.length = i) {a0 : Act} {w : World} {Q : Exit → Act → World → Prop}
    (h : Grows w0 rwP 31 2 (fun s r => ⟨T24 s i, H24 c q r, []⟩) z a0 w)
    (hk : ∀ a' w', Grows w0 rwP 31 2 (fun s r => ⟨T24 s ((i + 1 : Nat) : Int), H24 (addP c q) q r, []⟩) (z ++ [c]) a' w' → Q .normal a' w') : loop24.wp Tryz.prog Q a0 w := by
  obtain ⟨ρ, s, r, hs, hsr⟩ := grows_cases h
  refine toS_sound (sy := ⟨true, [(10, .bool true)]⟩) (m := 20) (n := 2) (ts := [3, 4, 7, 8, 9]) (ks := [0, 1, 2]) (hl := 3) (st' := ⟨T24 s i, H24 c q r, [Value.bool (decide ((i : Int) < 9)) = Value.bool true]⟩) hm sp24 (by rcases hsr with ⟨rfl, rfl, rfl⟩ | ⟨sp, rfl, rfl, _⟩ <;> kernel_rfl) (fun p hp => by rw [List.mem_singleton.1 hp, decide_eq_true (by omega)]) hs fun ρ1 a1 w1 hρ1 s1 => ?_
  refine wp_seq (wp_block (wp_seq ?_))
  refine region_append (st := ⟨T24 s i, H24 c q r, []⟩) sp24 rwP rwT60 3 (s := 11) (x := 13) (d := 14) (k := 2) (sy := false)
    (T1 := mkA [(3, ptr 0), (4, ptr 1), (7, s), (8, I1 .i64 9), (9, I1 .i64 i), (11, s), (12, P1 c), (13, .g (.a (.s 3 1 (some 1))))] 20 0)
    (H1 := H24 c q r ++ [some ⟨ptC c, 31, false, true⟩]) (O1 := []) rfl rfl rfl rfl (by rcases hsr with ⟨rfl, rfl, rfl⟩ | ⟨sp, rfl, rfl, _⟩ <;> kernel_rfl) met0
    (n := z.length) (m := 1) (l := z) (ns := [c]) rfl rfl (by decide) ⟨s1.bnd, s1.rel, s1.ref⟩ ?_ (kb := 3) (c := some 1) rfl rfl (fun ρ => ⟨[], by simp [flat, ptC, At.cells, rwP, pcells]⟩) ?_ (by show (z.length + 1) * 192 ≤ _; omega) (by omega) ?_
  · rcases hsr with ⟨rfl, rfl, rfl⟩ | ⟨sp, rfl, rfl, hc⟩
    · exact .inl ⟨rfl, rfl⟩
    · exact .inr (.inr ⟨sp, rfl, rfl, by rw [hρ1 2 (show 2 < 3 by decide)]; exact hc⟩)
  · rcases hsr with ⟨rfl, rfl, rfl⟩ | ⟨sp, rfl, rfl, hc⟩ <;> kernel_rfl
  · intro sp' ρ3 a3 w3 hc3 _ s3
    refine restA_sound (sy := false) (ts := [3, 4, 7, 8, 9]) (ks := [0, 1, 2]) (hl := 3) (st' := ⟨T24 (rowS 2 (z.length + 1)) i, H24 c q (some (blk2 rwP 31 (z ++ [c]) sp')), []⟩) sp24 (by rcases hsr with ⟨rfl, rfl, rfl⟩ | ⟨sp, rfl, rfl, _⟩ <;> kernel_rfl) met0 s3 fun ρ4 a4 w4 hρ4 s4 => ?_
    refine toA_sound (sy := false) (n := 20) (ts := [3, 4, 7, 8, 9]) (ks := [0, 1, 2]) (hl := 3) (ex := .normal) (st' := ⟨T24 (rowS 2 (z.length + 1)) i, H24 (addP c q) q (some (blk2 rwP 31 (z ++ [c]) sp')), []⟩) hm sp24 (by kernel_rfl) met0 s4 fun ρ5 a5 w5 hρ5 s5 => ?_
    refine toA_sound (sy := ⟨true, [(18, .int .i64 ((i + 1 : Nat) : Int))]⟩) (n := 20) (ts := [3, 4, 7, 8, 9]) (ks := [0, 1, 2]) (hl := 3) (ex := .normal) (st' := ⟨T24 (rowS 2 (z.length + 1)) ((i + 1 : Nat) : Int), H24 (addP c q) q (some (blk2 rwP 31 (z ++ [c]) sp')), [Value.int .i64 (IntKind.i64.wrap ((i : Int) + 1)) = Value.int .i64 ((i + 1 : Nat) : Int)]⟩) hm sp24 (by kernel_rfl) (fun p hp => by rw [List.mem_singleton.1 hp, wrap_in (by omega)]; rfl) s5 fun ρ6 a6 w6 hρ6 s6 => ?_
    refine hk a6 w6 (.inr ⟨ρ6, sp', ?_, ?_⟩)
    · show (ρ6 2).2 = (z ++ [c] : List Pt).length + List.length (α := Pt) sp'
      rw [hρ6 2 (show 2 < 3 by decide), hρ5 2 (show 2 < 3 by decide), hρ4 2 (show 2 < 4 by decide), List.length_append]; exact hc3
    · have e : (z ++ [c] : List Pt).length = z.length + 1 := List.length_append ..
      show StOk w0 ρ6 ⟨T24 (rowS 2 (z ++ [c] : List Pt).length) ((i + 1 : Nat) : Int), _, _⟩ a6 w6
      rw [e]; exact ⟨s6.bnd, s6.rel, s6.ref⟩
theorem fun24 : Fun Tryz.prog 24 Tryz.f24 := ⟨Tryz.func24, by kernel_rfl, by kernel_rfl⟩
theorem table_calls (p q : Pt) {w : World} {ρ : Rho} :
    Calls Tryz.prog 24 (argsV ρ [P1 p, P1 q, I1 .i64 9]) w fun e w' => ∃ ρ', e = .returned ((rowS 2 9).val ρ') ∧ Ref w ρ' w' (lk [none, none, some (⟨[.t (tabP p q 9).1], 31, true, true⟩ : Blk)]) := by
  refine fun_wp (H := []) fun24.at_ (c := (Tryz.f24.body).getD .skip) rfl (by kernel_rfl) (read_ref rfl (fun k b hk => by cases hk)) fun a hs => ?_
  refine toS_sound (sy := false) (m := 20) (n := 2) (ts := [2, 3, 4, 7]) (ks := [0, 1]) (hl := 2) (st' := ⟨mkA [(2, I1 .i64 9), (3, ptr 0), (4, ptr 1), (7, nilS)] 20 0, [some ⟨ptC p, 31, false, true⟩, some ⟨ptC q, 31, false, true⟩], []⟩) hm sp24 (by kernel_rfl) met0 hs fun ρ1 a1 w1 _ s1 => ?_
  refine wp_seq (wp_seq ?_)
  refine toA_sound (sy := false) (n := 20) (ts := [3, 4, 7, 8, 9]) (ks := [0, 1]) (hl := 2) (ex := .normal) (st' := ⟨T24 nilS ((0 : Nat) : Int), [some ⟨ptC p, 31, false, true⟩, some ⟨ptC q, 31, false, true⟩], []⟩) hm sp24 (by kernel_rfl) met0 s1 fun ρ2 a2 w2 _ s2 => ?_
  have s2' : StOk w ρ2 ⟨T24 nilS ((0 : Nat) : Int), H24 p q none, []⟩ a2 w2 := by
    refine ⟨bndB_spec (by kernel_rfl), s2.rel, s2.ref.less fun k b' hk => ?_⟩
    match k, hk with
    | 0, hk => exact ⟨b', hk, rfl, id⟩
    | 1, hk => exact ⟨b', hk, rfl, id⟩
    | 2, hk => cases hk
  refine wp_block (wp_loop_up 9 (fun i a w' => Grows w rwP 31 2 (fun s r => ⟨T24 s (i : Int), H24 (tabP p q i).2 q r, []⟩) (tabP p q i).1 a w') (.inl ⟨rfl, ρ2, s2'⟩) (fun i hi a w' h => round24 w _ q i hi (tabP p q i).1 (tabP_len p q i) h fun a' w' h' => h') (fun a w' h => ?_))
  obtain ⟨ρ3, s', r', hs3, hsr3⟩ := grows_cases h
  have hlen := tabP_len p q 9
  generalize (tabP p q 9).1 = z at *
  generalize (tabP p q 9).2 = c at *
  rcases hsr3 with ⟨_, _, h0⟩ | ⟨sp, rfl, rfl, hc⟩
  · have : z.length = 0 := by rw [h0]; rfl
    omega
  · replace hs3 : StOk w ρ3 ⟨T24 (rowS 2 z.length) ((9 : Nat) : Int), H24 c q (some (blk2 rwP 31 z sp)), []⟩ a w' := hs3
    rw [hlen] at hs3
    refine toA_sound (sy := false) (n := 20) (ts := [7]) (ks := [2]) (hl := 3) (ex := .exit 0) (st' := ⟨mkA [(7, rowS 2 9)] 20 0, [none, none, some (blk2 rwP 31 z sp)], []⟩) hm sp24 (by kernel_rfl) met0 hs3 fun ρ4 a4 w4 hρ4 s4 => ?_
    refine toA_sound (sy := false) (n := 20) (ts := [6]) (ks := [2]) (hl := 3) (ex := .ret) (st' := ⟨mkA [(6, rowS 2 9)] 20 0, [none, none, some (blk2 rwP 31 z sp)], []⟩) hm sp24 (by kernel_rfl) met0 s4 fun ρ5 a5 w5 hρ5 s5 => ?_
    refine fun_end s5 (l := [.a (.s 2 9 none)]) (by kernel_rfl) ⟨ρ5, rfl, s5.ref.less fun k b' hk => ?_⟩ (.inl rfl)
    match k, hk with
    | 2, hk =>
      obtain rfl := Option.some.inj hk
      exact ⟨_, rfl, rfl, holds_row⟩
def e24 : Ent := ⟨24, fun args _ kn => match args with
  | [.g (.agg [.e a, .e b, .e c]), .g (.agg [.e d, .e e, .e f]), .g (.a (.v (.int .i64 (.ofNat 9))))] => some ⟨rowS kn 9, [(kn, ⟨[.t (tabP (a, b, c) (d, e, f) 9).1], 31, true, true⟩)], []⟩
  | _ => none⟩
theorem e24_ok : EntOk Tryz.prog e24 := fun args V kn o ho hob w0 ρ w H hR hV hn hf hfx => by
  unfold e24 at ho
  simp only at ho
  split at ho
  · rename_i a b c d e f
    obtain rfl := Option.some.inj ho
    exact does_new fun24 hR hn hf rfl rfl (j := 2) ⟨_, rfl, rfl, rfl, (fun h => by cases h), rfl⟩ (table_calls (a, b, c) (d, e, f))
  · cases ho
end Go.Proofs.YtkiaodihfofbnaaGreatDoor.X
