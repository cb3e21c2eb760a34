/- X448 of a secret number and a point's u is the u of that number times the point (the law TopCurves): part 6 of 22 of its proof: elements: the number less than p, the inverse. No condition. -/
import Derived.Test.YtkiaodihfofbnaaGreatDoorM04
set_option linter.unusedVariables false
set_option linter.unusedSimpArgs false
namespace Go.Proofs.YtkiaodihfofbnaaGreatDoor.X
open Go Go.RowKit
set_option maxRecDepth 100000

theorem wlimb_cases {x : L8} {i a : Int} (h : wlimb x i = some a) : (i = 0 ∧ a = x.a0) ∨ (i = 1 ∧ a = x.a1) ∨ (i = 2 ∧ a = x.a2) ∨ (i = 3 ∧ a = x.a3) ∨ (i = 4 ∧ a = x.a4) ∨ (i = 5 ∧ a = x.a5) ∨ (i = 6 ∧ a = x.a6) ∨ (i = 7 ∧ a = x.a7) := by
  unfold wlimb at h
  split at h
  all_goals first
    | (obtain rfl := Option.some.inj h
       first | exact .inl ⟨rfl, rfl⟩ | exact .inr (.inl ⟨rfl, rfl⟩) | exact .inr (.inr (.inl ⟨rfl, rfl⟩)) | exact .inr (.inr (.inr (.inl ⟨rfl, rfl⟩))) | exact .inr (.inr (.inr (.inr (.inl ⟨rfl, rfl⟩)))) | exact .inr (.inr (.inr (.inr (.inr (.inl ⟨rfl, rfl⟩))))) | exact .inr (.inr (.inr (.inr (.inr (.inr (.inl ⟨rfl, rfl⟩)))))) | exact .inr (.inr (.inr (.inr (.inr (.inr (.inr ⟨rfl, rfl⟩)))))))
    | cases h
def e79w : Ent := ⟨79, fun args V _ => match args with
  | [.g (.a (.v (.int .i64 i))), .g (.a (.p k0 0)), .g (.a (.p k1 0)), .g (.a (.p k2 0))] => match rdW V k0, rdU V k1, rdW V k2 with
    | some x0, some x1, some x2 => match wlimb x0 i, some x1, wlimb x2 i with
      | some a0, some a1, some a2 => some ⟨u1 (xo a0 (an a1 (xo a0 a2))), [], []⟩
      | _, _, _ => none
    | _, _, _ => none
  | _ => none⟩
abbrev h79w (x0 : L8) (x1 : Int) (x2 : L8) (t0 : TypeId) (o0 : Bool) (t1 : TypeId) (o1 : Bool) (t2 : TypeId) (o2 : Bool) : List (Option Blk) := [some (⟨w8 x0, t0, o0, false⟩ : Blk), some (⟨[.v (.int .u64 x1)], t1, o1, false⟩ : Blk), some (⟨w8 x2, t2, o2, false⟩ : Blk)]
theorem e79w_ok : EntOk Tryz.prog e79w := fun args V kn o ho _ w0 ρ w H hR hV _ _ hfx => by
  unfold e79w at ho
  simp only at ho
  split at ho
  · rename_i i k0 k1 k2
    split at ho
    · rename_i x0 x1 x2 hx0 hx1 hx2
      split at ho
      · rename_i a0 a1 a2 ha0 ha1 ha2
        obtain rfl := Option.some.inj ho
        obtain ⟨t0, o0, w0, hx0⟩ := rdW_spec hx0
        replace hx0 := hV _ _ hx0
        obtain ⟨t1, o1, w1, hx1⟩ := rdU_spec hx1
        replace hx1 := hV _ _ hx1
        obtain ⟨t2, o2, w2, hx2⟩ := rdW_spec hx2
        replace hx2 := hV _ _ hx2
        refine does_ref hR ?_
        have hH : ∀ i b0, lk (h79w x0 x1 x2 t0 o0 t1 o1 t2 o2) i = some b0 → ∃ b, H (sel3 k0 k1 k2 i) = some b ∧ b.cs = b0.cs.map (At.ren (sel3 k0 k1 k2)) ∧ b.t = b0.t ∧ b.opn = b0.opn := fun i b0 hi => by
          match i, hi with
          | 0, hi => obtain rfl := Option.some.inj hi; exact ⟨_, hx0, rfl, rfl, rfl⟩
          | 1, hi => obtain rfl := Option.some.inj hi; exact ⟨_, hx1, rfl, rfl, rfl⟩
          | 2, hi => obtain rfl := Option.some.inj hi; exact ⟨_, hx2, rfl, rfl, rfl⟩
        have run : ∀ (i : Int) (a0 a1 a2 : Int), ansOf (runFn Tryz.prog (spOf []) false 100 Tryz.f79 [I1 .i64 i, .g (.a (.p 0 0)), .g (.a (.p 1 0)), .g (.a (.p 2 0))] (h79w x0 x1 x2 t0 o0 t1 o1 t2 o2)) = some (u1 (xo a0 (an a1 (xo a0 a2))), []) →
            Does Tryz.prog 79 (argsV ρ [I1 .i64 i, .g (.a (.p k0 0)), .g (.a (.p k1 0)), .g (.a (.p k2 0))]) w fun v w' => v = (u1 (xo a0 (an a1 (xo a0 a2)))).val ρ ∧ Below w.heap.size w w' :=
          fun i a0 a1 a2 h => caps_run hm spOk_nil fun79 false 100 h met0 (by kernel_rfl) (sel3 k0 k1 k2) hR hH
        rcases wlimb_cases ha0 with ⟨rfl, rfl⟩ | ⟨rfl, rfl⟩ | ⟨rfl, rfl⟩ | ⟨rfl, rfl⟩ | ⟨rfl, rfl⟩ | ⟨rfl, rfl⟩ | ⟨rfl, rfl⟩ | ⟨rfl, rfl⟩
        all_goals (obtain rfl := Option.some.inj ha1; obtain rfl := Option.some.inj ha2; exact run _ _ _ _ (by kernel_rfl))
      · cases ho
    · cases ho
  · cases ho
def selWW (x0 : L8) (x1 : Int) (x2 : L8) : L8 := ⟨xo x0.a0 (an x1 (xo x0.a0 x2.a0)), xo x0.a1 (an x1 (xo x0.a1 x2.a1)), xo x0.a2 (an x1 (xo x0.a2 x2.a2)), xo x0.a3 (an x1 (xo x0.a3 x2.a3)), xo x0.a4 (an x1 (xo x0.a4 x2.a4)), xo x0.a5 (an x1 (xo x0.a5 x2.a5)), xo x0.a6 (an x1 (xo x0.a6 x2.a6)), xo x0.a7 (an x1 (xo x0.a7 x2.a7))⟩
def e62_79w : Ent := ⟨62, fun args V _ => match args with
  | [.g (.a (.c 79 [] [k0, k1, k2]))] => match rdW V k0, rdU V k1, rdW V k2 with
    | some x0, some x1, some x2 => some ⟨W8 (selWW x0 x1 x2), [], []⟩
    | _, _, _ => none
  | _ => none⟩
theorem e62_79w_ok : EntOk Tryz.prog e62_79w := fun args V kn o ho _ w0 ρ w H hR hV _ _ hfx => by
  unfold e62_79w at ho
  simp only at ho
  split at ho
  · rename_i k0 k1 k2
    split at ho
    · rename_i x0 x1 x2 hx0 hx1 hx2
      obtain rfl := Option.some.inj ho
      obtain ⟨t0, o0, w0, hx0⟩ := rdW_spec hx0
      replace hx0 := hV _ _ hx0
      obtain ⟨t1, o1, w1, hx1⟩ := rdU_spec hx1
      replace hx1 := hV _ _ hx1
      obtain ⟨t2, o2, w2, hx2⟩ := rdW_spec hx2
      replace hx2 := hV _ _ hx2
      refine does_ref hR ?_
      have hH : ∀ i b0, lk (h79w x0 x1 x2 t0 o0 t1 o1 t2 o2) i = some b0 → ∃ b, H (sel3 k0 k1 k2 i) = some b ∧ b.cs = b0.cs.map (At.ren (sel3 k0 k1 k2)) ∧ b.t = b0.t ∧ b.opn = b0.opn := fun i b0 hi => by
        match i, hi with
        | 0, hi => obtain rfl := Option.some.inj hi; exact ⟨_, hx0, rfl, rfl, rfl⟩
        | 1, hi => obtain rfl := Option.some.inj hi; exact ⟨_, hx1, rfl, rfl, rfl⟩
        | 2, hi => obtain rfl := Option.some.inj hi; exact ⟨_, hx2, rfl, rfl, rfl⟩
      exact caps_run (args0 := [.g (.a (.c 79 [] [0, 1, 2]))]) (H0 := h79w x0 x1 x2 t0 o0 t1 o1 t2 o2) (r := W8 (selWW x0 x1 x2)) (ob := []) hm (spOk_cons e79w_ok spOk_nil) fun62 false 100 (by kernel_rfl) met0 (by kernel_rfl) (sel3 k0 k1 k2) hR hH
    · cases ho
  · cases ho


def e66w : Ent := ent3 66 pI pL pL fun b x y => W8 (selWW x (bitW b) y)
theorem e66w_ok : EntOk Tryz.prog e66w := ent3_ok fun b x y =>
  plain_run (args := [I1 .i64 b, W8 x, W8 y]) hm (spOk_cons e62_79w_ok spOk_nil) fun66 false 100 (ob := []) (by kernel_rfl) met0 (by kernel_rfl)

/-- Eight words, none below nought; what goes on from limb to limb, where nothing is too great. -/
def decN : AV → Option N8
  | .g (.agg l) => match expand l with
    | [.v (.int .u64 (.ofNat a)), .v (.int .u64 (.ofNat b)), .v (.int .u64 (.ofNat c)), .v (.int .u64 (.ofNat d)), .v (.int .u64 (.ofNat e)), .v (.int .u64 (.ofNat f)), .v (.int .u64 (.ofNat g)), .v (.int .u64 (.ofNat h))] => some ⟨a, b, c, d, e, f, g, h⟩
    | _ => none
  | _ => none
theorem decN_ok {v : AV} {z : N8} (h : decN v = some z) (ρ : Rho) : v.val ρ = (W8 z.w).val ρ := by
  unfold decN at h
  split at h
  · rename_i l
    split at h
    · rename_i e
      rw [← Option.some.inj h]
      simp only [AV.val, G.val]
      rw [← flat_expand, e]
      rfl
    · cases h
  · cases h
def e58n : Ent := ⟨58, fun args _ _ => match args with
  | [x] => match decN x with
    | some z => some ⟨W8 (carN z).w, [], [z.lt 9223372036854775808]⟩
    | none => none
  | _ => none⟩
theorem e58n_ok : EntOk Tryz.prog e58n := fun args V kn o ho hob w0 ρ w H hR hV _ _ hfx => by
  unfold e58n at ho
  simp only at ho
  split at ho
  · rename_i x
    split at ho
    · rename_i z hz
      obtain rfl := Option.some.inj ho
      have h := (plain_run (args := [W8 z.w]) (r := W8 (carryF z.w)) hm spOk_nil fun58 false 100 (ob := []) (by kernel_rfl) met0 (by kernel_rfl)) w ρ
      rw [carryF_nat hob.one] at h
      have e : argsV ρ [W8 z.w] = argsV ρ [x] := by simp only [argsV, List.map_cons, List.map_nil, decN_ok hz ρ]
      rw [e] at h
      exact does_ref hR h
    · cases ho
  · cases ho

/-! ### The number less than p -/
def sd (a b : Int) : Int := ((a.toNat + 18446744073709551616 - b.toNat) % 18446744073709551616 : Nat)
def sl (a b : Int) : Int := ((if a.toNat < b.toNat then 1 else 0 : Nat) : Int)
structure SB where
  b : L8
  less : Int
def subP (a p : L8) : SB :=
  let t0 := ad p.a0 0
  let l0 := sl a.a0 t0
  let t1 := ad p.a1 l0
  let l1 := sl a.a1 t1
  let t2 := ad p.a2 l1
  let l2 := sl a.a2 t2
  let t3 := ad p.a3 l2
  let l3 := sl a.a3 t3
  let t4 := ad p.a4 l3
  let l4 := sl a.a4 t4
  let t5 := ad p.a5 l4
  let l5 := sl a.a5 t5
  let t6 := ad p.a6 l5
  let l6 := sl a.a6 t6
  let t7 := ad p.a7 l6
  ⟨⟨mk (sd a.a0 t0), mk (sd a.a1 t1), mk (sd a.a2 t2), mk (sd a.a3 t3), mk (sd a.a4 t4), mk (sd a.a5 t5), mk (sd a.a6 t6), mk (sd a.a7 t7)⟩, sl a.a7 t7⟩
theorem fun40 : Fun Tryz.prog 40 Tryz.f40 := ⟨Tryz.func40, by kernel_rfl, by kernel_rfl⟩
def twice (x : El) : N8 := carN (carN x.n)
theorem strong_words (x : El) : Plain Tryz.prog 40 [E1 x] (W8 (selWW (twice x).w (bitW (IntKind.i64.wrap (sb 1 (subP (twice x).w primeW).less))) (subP (twice x).w primeW).b)) :=
  plain_run (args := [E1 x]) hm (spOk_cons e58n_ok (spOk_cons e64_ok (spOk_cons e65_ok (spOk_cons e66w_ok spOk_nil)))) fun40 false 100 (ob := [(carN x.n).lt 9223372036854775808, x.n.lt 9223372036854775808]) (by kernel_rfl)
    (fun p hp => by
      simp only [List.mem_cons, List.not_mem_nil, or_false] at hp
      have h1 : ∀ z : N8, z.lt 72057594037928192 → z.lt 9223372036854775808 := fun z hz => by
        obtain ⟨h0, h1, h2, h3, h4, h5, h6, h7⟩ := hz
        exact ⟨Nat.lt_trans h0 (by decide), Nat.lt_trans h1 (by decide), Nat.lt_trans h2 (by decide), Nat.lt_trans h3 (by decide), Nat.lt_trans h4 (by decide), Nat.lt_trans h5 (by decide), Nat.lt_trans h6 (by decide), Nat.lt_trans h7 (by decide)⟩
      rcases hp with rfl | rfl
      · exact h1 _ (carN_lt (h1 _ x.n_lt))
      · exact h1 _ x.n_lt) (by kernel_rfl)
/-- Behind one carrying, either all limbs are below 2^56, or the last one is small. -/
theorem carN_step {z : N8} (h : z.lt 72057594037928192) : ((carN z).a7 ≤ 256 ∧ (carN z).lt 72057594037927937) ∨ (carN z).lt 72057594037927936 := by
  obtain ⟨a0, a1, a2, a3, a4, a5, a6, a7⟩ := z
  obtain ⟨h0, h1, h2, h3, h4, h5, h6, h7⟩ := h
  simp only at h0 h1 h2 h3 h4 h5 h6 h7
  simp only [carN, N8.lt]
  have q0 : a0 / 72057594037927936 ≤ 1 := by omega
  have r0 : a0 % 72057594037927936 < 72057594037927936 := Nat.mod_lt _ (by decide)
  generalize a0 / 72057594037927936 = o0 at *
  generalize a0 % 72057594037927936 = m0 at *
  obtain ⟨y1, hy1⟩ : ∃ y, a1 + o0 = y := ⟨_, rfl⟩
  rw [hy1]
  have s1 : y1 < 72057594037928193 := by omega
  clear hy1
  have q1 : y1 / 72057594037927936 ≤ 1 := by omega
  have r1 : y1 % 72057594037927936 < 72057594037927936 := Nat.mod_lt _ (by decide)
  generalize y1 / 72057594037927936 = o1 at *
  generalize y1 % 72057594037927936 = m1 at *
  obtain ⟨y2, hy2⟩ : ∃ y, a2 + o1 = y := ⟨_, rfl⟩
  rw [hy2]
  have s2 : y2 < 72057594037928193 := by omega
  clear hy2
  have q2 : y2 / 72057594037927936 ≤ 1 := by omega
  have r2 : y2 % 72057594037927936 < 72057594037927936 := Nat.mod_lt _ (by decide)
  generalize y2 / 72057594037927936 = o2 at *
  generalize y2 % 72057594037927936 = m2 at *
  obtain ⟨y3, hy3⟩ : ∃ y, a3 + o2 = y := ⟨_, rfl⟩
  rw [hy3]
  have s3 : y3 < 72057594037928193 := by omega
  clear hy3
  have q3 : y3 / 72057594037927936 ≤ 1 := by omega
  have r3 : y3 % 72057594037927936 < 72057594037927936 := Nat.mod_lt _ (by decide)
  generalize y3 / 72057594037927936 = o3 at *
  generalize y3 % 72057594037927936 = m3 at *
  obtain ⟨y4, hy4⟩ : ∃ y, a4 + o3 = y := ⟨_, rfl⟩
  rw [hy4]
  have s4 : y4 < 72057594037928193 := by omega
  clear hy4
  have q4 : y4 / 72057594037927936 ≤ 1 := by omega
  have r4 : y4 % 72057594037927936 < 72057594037927936 := Nat.mod_lt _ (by decide)
  generalize y4 / 72057594037927936 = o4 at *
  generalize y4 % 72057594037927936 = m4 at *
  obtain ⟨y5, hy5⟩ : ∃ y, a5 + o4 = y := ⟨_, rfl⟩
  rw [hy5]
  have s5 : y5 < 72057594037928193 := by omega
  clear hy5
  have q5 : y5 / 72057594037927936 ≤ 1 := by omega
  have r5 : y5 % 72057594037927936 < 72057594037927936 := Nat.mod_lt _ (by decide)
  generalize y5 / 72057594037927936 = o5 at *
  generalize y5 % 72057594037927936 = m5 at *
  obtain ⟨y6, hy6⟩ : ∃ y, a6 + o5 = y := ⟨_, rfl⟩
  rw [hy6]
  have s6 : y6 < 72057594037928193 := by omega
  clear hy6
  have q6 : y6 / 72057594037927936 ≤ 1 := by omega
  have r6 : y6 % 72057594037927936 < 72057594037927936 := Nat.mod_lt _ (by decide)
  generalize y6 / 72057594037927936 = o6 at *
  generalize y6 % 72057594037927936 = m6 at *
  obtain ⟨y7, hy7⟩ : ∃ y, a7 + o6 = y := ⟨_, rfl⟩
  rw [hy7]
  have s7 : y7 < 72057594037928193 := by omega
  clear hy7
  have t7 : (y7 < 72057594037927936 ∧ y7 / 72057594037927936 = 0 ∧ y7 % 72057594037927936 = y7) ∨ (y7 / 72057594037927936 = 1 ∧ y7 % 72057594037927936 ≤ 256) := by omega
  have r7 : y7 % 72057594037927936 < 72057594037927936 := Nat.mod_lt _ (by decide)
  generalize y7 / 72057594037927936 = o7 at *
  generalize y7 % 72057594037927936 = m7 at *
  clear h0 h1 h2 h3 h4 h5 h6 h7 s1 s2 s3 s4 s5 s6 s7 q0 q1 q2 q3 q4 q5 q6
  rcases t7 with ⟨_, e, _⟩ | ⟨e, e2⟩
  · subst e; right; omega
  · subst e; left; omega
theorem carN_rest {z : N8} (h : (z.a7 ≤ 256 ∧ z.lt 72057594037927937) ∨ z.lt 72057594037927936) : (carN z).lt 72057594037927936 := by
  obtain ⟨a0, a1, a2, a3, a4, a5, a6, a7⟩ := z
  simp only [N8.lt] at h
  simp only [carN, N8.lt]
  have h' : (a7 ≤ 256 ∧ a0 ≤ 72057594037927936 ∧ a1 ≤ 72057594037927936 ∧ a2 ≤ 72057594037927936 ∧ a3 ≤ 72057594037927936 ∧ a4 ≤ 72057594037927936 ∧ a5 ≤ 72057594037927936 ∧ a6 ≤ 72057594037927936) ∨ (a0 < 72057594037927936 ∧ a1 < 72057594037927936 ∧ a2 < 72057594037927936 ∧ a3 < 72057594037927936 ∧ a4 < 72057594037927936 ∧ a5 < 72057594037927936 ∧ a6 < 72057594037927936 ∧ a7 < 72057594037927936) := by omega
  clear h
  rcases h' with ⟨h7, h0, h1, h2, h3, h4, h5, h6⟩ | ⟨h0, h1, h2, h3, h4, h5, h6, h7⟩
  · have q0 : a0 / 72057594037927936 ≤ 1 := by omega
    have r0 : a0 % 72057594037927936 < 72057594037927936 := Nat.mod_lt _ (by decide)
    generalize a0 / 72057594037927936 = o0 at *
    generalize a0 % 72057594037927936 = m0 at *
    obtain ⟨y1, hy1⟩ : ∃ y, a1 + o0 = y := ⟨_, rfl⟩
    rw [hy1]
    have q1 : y1 / 72057594037927936 ≤ 1 := by omega
    clear hy1
    have r1 : y1 % 72057594037927936 < 72057594037927936 := Nat.mod_lt _ (by decide)
    generalize y1 / 72057594037927936 = o1 at *
    generalize y1 % 72057594037927936 = m1 at *
    obtain ⟨y2, hy2⟩ : ∃ y, a2 + o1 = y := ⟨_, rfl⟩
    rw [hy2]
    have q2 : y2 / 72057594037927936 ≤ 1 := by omega
    clear hy2
    have r2 : y2 % 72057594037927936 < 72057594037927936 := Nat.mod_lt _ (by decide)
    generalize y2 / 72057594037927936 = o2 at *
    generalize y2 % 72057594037927936 = m2 at *
    obtain ⟨y3, hy3⟩ : ∃ y, a3 + o2 = y := ⟨_, rfl⟩
    rw [hy3]
    have q3 : y3 / 72057594037927936 ≤ 1 := by omega
    clear hy3
    have r3 : y3 % 72057594037927936 < 72057594037927936 := Nat.mod_lt _ (by decide)
    generalize y3 / 72057594037927936 = o3 at *
    generalize y3 % 72057594037927936 = m3 at *
    obtain ⟨y4, hy4⟩ : ∃ y, a4 + o3 = y := ⟨_, rfl⟩
    rw [hy4]
    have q4 : y4 / 72057594037927936 ≤ 1 := by omega
    clear hy4
    have r4 : y4 % 72057594037927936 < 72057594037927936 := Nat.mod_lt _ (by decide)
    generalize y4 / 72057594037927936 = o4 at *
    generalize y4 % 72057594037927936 = m4 at *
    obtain ⟨y5, hy5⟩ : ∃ y, a5 + o4 = y := ⟨_, rfl⟩
    rw [hy5]
    have q5 : y5 / 72057594037927936 ≤ 1 := by omega
    clear hy5
    have r5 : y5 % 72057594037927936 < 72057594037927936 := Nat.mod_lt _ (by decide)
    generalize y5 / 72057594037927936 = o5 at *
    generalize y5 % 72057594037927936 = m5 at *
    obtain ⟨y6, hy6⟩ : ∃ y, a6 + o5 = y := ⟨_, rfl⟩
    rw [hy6]
    have q6 : y6 / 72057594037927936 ≤ 1 := by omega
    clear hy6
    have r6 : y6 % 72057594037927936 < 72057594037927936 := Nat.mod_lt _ (by decide)
    generalize y6 / 72057594037927936 = o6 at *
    generalize y6 % 72057594037927936 = m6 at *
    obtain ⟨y7, hy7⟩ : ∃ y, a7 + o6 = y := ⟨_, rfl⟩
    rw [hy7]
    have q7 : y7 / 72057594037927936 = 0 := by omega
    clear hy7
    have r7 : y7 % 72057594037927936 < 72057594037927936 := Nat.mod_lt _ (by decide)
    generalize y7 / 72057594037927936 = o7 at *
    generalize y7 % 72057594037927936 = m7 at *
    subst q7
    omega
  · have e : ∀ n, n < 72057594037927936 → n / 72057594037927936 = 0 := fun n hn => Nat.div_eq_of_lt hn
    rw [e a0 h0, Nat.add_zero, e a1 h1, Nat.add_zero, e a2 h2, Nat.add_zero, e a3 h3, Nat.add_zero, e a4 h4, Nat.add_zero, e a5 h5, Nat.add_zero, e a6 h6, Nat.add_zero, e a7 h7, Nat.add_zero, Nat.add_zero]
    exact ⟨Nat.mod_lt _ (by decide), Nat.mod_lt _ (by decide), Nat.mod_lt _ (by decide), Nat.mod_lt _ (by decide), Nat.mod_lt _ (by decide), Nat.mod_lt _ (by decide), Nat.mod_lt _ (by decide), Nat.mod_lt _ (by decide)⟩
theorem twice_lt (x : El) : (twice x).lt 72057594037927936 := carN_rest (carN_step x.n_lt)
theorem twice_val (x : El) : (twice x).val % pp = x.num % pp := by
  obtain ⟨o, h⟩ := carN_val x.n
  obtain ⟨o', h'⟩ := carN_val (carN x.n)
  show (carN (carN x.n)).val % pp = x.n.val % pp
  rw [h, Nat.add_mul_mod_self_right, h', Nat.add_mul_mod_self_right]
/-- The limbs of a number. -/
def digZ (n : Nat) : N8 := ⟨n % 72057594037927936, n / 72057594037927936 % 72057594037927936, n / 5192296858534827628530496329220096 % 72057594037927936, n / 374144419156711147060143317175368453031918731001856 % 72057594037927936, n / 26959946667150639794667015087019630673637144422540572481103610249216 % 72057594037927936, n / 1942668892225729070919461906823518906642406839052139521251812409738904285205208498176 % 72057594037927936, n / 139984046386112763159840142535527767382602843577165595931249318810236991948760059086304843329475444736 % 72057594037927936, n / 10086913586276986678343434265636765134100413253239154346994763111486904773503285916522052161250538404046496765518544896 % 72057594037927936⟩
theorem digZ_of {z : N8} (h : z.lt 72057594037927936) : digZ z.val = z := by
  obtain ⟨a0, a1, a2, a3, a4, a5, a6, a7⟩ := z
  obtain ⟨h0, h1, h2, h3, h4, h5, h6, h7⟩ := h
  simp only at h0 h1 h2 h3 h4 h5 h6 h7
  simp only [digZ, N8.val, N8.mk.injEq]
  refine ⟨?_, ?_, ?_, ?_, ?_, ?_, ?_, ?_⟩ <;> omega
theorem digZ_lt (n : Nat) : (digZ n).lt 72057594037927936 := ⟨Nat.mod_lt _ (by decide), Nat.mod_lt _ (by decide), Nat.mod_lt _ (by decide), Nat.mod_lt _ (by decide), Nat.mod_lt _ (by decide), Nat.mod_lt _ (by decide), Nat.mod_lt _ (by decide), Nat.mod_lt _ (by decide)⟩
theorem digZ_val {n : Nat} (h : n < 726838724295606890549323807888004534353641360687318060281490199180639288113397923326191050713763565560762521606266177933534601628614656) : (digZ n).val = n := by
  simp only [digZ, N8.val]
  omega
theorem val_lt {z : N8} (h : z.lt 72057594037927936) : z.val < 726838724295606890549323807888004534353641360687318060281490199180639288113397923326191050713763565560762521606266177933534601628614656 := by
  obtain ⟨a0, a1, a2, a3, a4, a5, a6, a7⟩ := z
  obtain ⟨h0, h1, h2, h3, h4, h5, h6, h7⟩ := h
  simp only at h0 h1 h2 h3 h4 h5 h6 h7
  simp only [N8.val]
  omega
/-- The element's number, less than p, in limbs. -/
def strE (x : El) : El := (digZ (x.num % pp)).el (by
  obtain ⟨h0, h1, h2, h3, h4, h5, h6, h7⟩ := digZ_lt (x.num % pp)
  exact ⟨Nat.lt_trans h0 (by decide), Nat.lt_trans h1 (by decide), Nat.lt_trans h2 (by decide), Nat.lt_trans h3 (by decide), Nat.lt_trans h4 (by decide), Nat.lt_trans h5 (by decide), Nat.lt_trans h6 (by decide), Nat.lt_trans h7 (by decide)⟩)
theorem sd_nat (a t : Nat) : sd a t = ((a + 18446744073709551616 - t) % 18446744073709551616 : Nat) := rfl
theorem sl_nat (a t : Nat) : sl a t = ((if a < t then 1 else 0 : Nat) : Int) := rfl
/-- One limb: what is lent, and what is left. -/
theorem limb_sub {a p l : Nat} (ha : a < 72057594037927936) (hp : p < 72057594037927936) (hl : l ≤ 1) : ∃ b l' : Nat, ad (p : Int) (l : Int) = ((p + l : Nat) : Int) ∧ sl (a : Int) ((p + l : Nat) : Int) = (l' : Int) ∧ mk (sd (a : Int) ((p + l : Nat) : Int)) = (b : Int) ∧ l' ≤ 1 ∧ b < 72057594037927936 ∧ b + p + l = a + l' * 72057594037927936 := by
  refine ⟨(a + 18446744073709551616 - (p + l)) % 18446744073709551616 % 72057594037927936, if a < p + l then 1 else 0, ad_nat (by omega), sl_nat _ _, ?_, ?_, Nat.mod_lt _ (by decide), ?_⟩
  · rw [sd_nat, mk_nat (Nat.mod_lt _ (by decide))]
  · split <;> omega
  · split <;> omega
theorem subP_eq {z : N8} (h : z.lt 72057594037927936) : ∃ (b : N8) (l : Nat), subP z.w primeW = ⟨b.w, l⟩ ∧ l ≤ 1 ∧ b.lt 72057594037927936 ∧ b.val + pp = z.val + l * 726838724295606890549323807888004534353641360687318060281490199180639288113397923326191050713763565560762521606266177933534601628614656 := by
  obtain ⟨a0, a1, a2, a3, a4, a5, a6, a7⟩ := z
  obtain ⟨h0, h1, h2, h3, h4, h5, h6, h7⟩ := h
  simp only at h0 h1 h2 h3 h4 h5 h6 h7
  obtain ⟨b0, l1, e0a, e0b, e0c, k1, c0, d0⟩ := limb_sub (a := a0) (p := 72057594037927935) (l := 0) h0 (by decide) (by decide)
  obtain ⟨b1, l2, e1a, e1b, e1c, k2, c1, d1⟩ := limb_sub (a := a1) (p := 72057594037927935) (l := l1) h1 (by decide) k1
  obtain ⟨b2, l3, e2a, e2b, e2c, k3, c2, d2⟩ := limb_sub (a := a2) (p := 72057594037927935) (l := l2) h2 (by decide) k2
  obtain ⟨b3, l4, e3a, e3b, e3c, k4, c3, d3⟩ := limb_sub (a := a3) (p := 72057594037927935) (l := l3) h3 (by decide) k3
  obtain ⟨b4, l5, e4a, e4b, e4c, k5, c4, d4⟩ := limb_sub (a := a4) (p := 72057594037927934) (l := l4) h4 (by decide) k4
  obtain ⟨b5, l6, e5a, e5b, e5c, k6, c5, d5⟩ := limb_sub (a := a5) (p := 72057594037927935) (l := l5) h5 (by decide) k5
  obtain ⟨b6, l7, e6a, e6b, e6c, k7, c6, d6⟩ := limb_sub (a := a6) (p := 72057594037927935) (l := l6) h6 (by decide) k6
  obtain ⟨b7, l8, e7a, e7b, e7c, k8, c7, d7⟩ := limb_sub (a := a7) (p := 72057594037927935) (l := l7) h7 (by decide) k7
  refine ⟨⟨b0, b1, b2, b3, b4, b5, b6, b7⟩, l8, ?_, k8, ⟨c0, c1, c2, c3, c4, c5, c6, c7⟩, ?_⟩
  · have p1 : (72057594037927935 : Int) = ((72057594037927935 : Nat) : Int) := rfl
    have p2 : (72057594037927934 : Int) = ((72057594037927934 : Nat) : Int) := rfl
    have p0 : (0 : Int) = ((0 : Nat) : Int) := rfl
    simp only [subP, primeW, N8.w]
    rw [p1, p2, p0, e0a, e0b, e0c, e1a, e1b, e1c, e2a, e2b, e2c, e3a, e3b, e3c, e4a, e4b, e4c, e5a, e5b, e5c, e6a, e6b, e6c, e7a, e7b, e7c]
  · simp only [N8.val, pp]
    omega
theorem pickN {a b : N8} (ha : a.lt 72057594037927936) (hb : b.lt 72057594037927936) : selWW a.w 0 b.w = a.w ∧ selWW a.w 18446744073709551615 b.w = b.w := by
  obtain ⟨a0, a1, a2, a3, a4, a5, a6, a7⟩ := ha
  obtain ⟨b0, b1, b2, b3, b4, b5, b6, b7⟩ := hb
  constructor
  · simp only [selWW, N8.w]
    rw [pick0 (Nat.lt_trans a0 (by decide)) (Nat.lt_trans b0 (by decide)), pick0 (Nat.lt_trans a1 (by decide)) (Nat.lt_trans b1 (by decide)), pick0 (Nat.lt_trans a2 (by decide)) (Nat.lt_trans b2 (by decide)), pick0 (Nat.lt_trans a3 (by decide)) (Nat.lt_trans b3 (by decide)), pick0 (Nat.lt_trans a4 (by decide)) (Nat.lt_trans b4 (by decide)), pick0 (Nat.lt_trans a5 (by decide)) (Nat.lt_trans b5 (by decide)), pick0 (Nat.lt_trans a6 (by decide)) (Nat.lt_trans b6 (by decide)), pick0 (Nat.lt_trans a7 (by decide)) (Nat.lt_trans b7 (by decide))]
  · simp only [selWW, N8.w]
    rw [pick1 (Nat.lt_trans a0 (by decide)) (Nat.lt_trans b0 (by decide)), pick1 (Nat.lt_trans a1 (by decide)) (Nat.lt_trans b1 (by decide)), pick1 (Nat.lt_trans a2 (by decide)) (Nat.lt_trans b2 (by decide)), pick1 (Nat.lt_trans a3 (by decide)) (Nat.lt_trans b3 (by decide)), pick1 (Nat.lt_trans a4 (by decide)) (Nat.lt_trans b4 (by decide)), pick1 (Nat.lt_trans a5 (by decide)) (Nat.lt_trans b5 (by decide)), pick1 (Nat.lt_trans a6 (by decide)) (Nat.lt_trans b6 (by decide)), pick1 (Nat.lt_trans a7 (by decide)) (Nat.lt_trans b7 (by decide))]
theorem strong_eq (x : El) : selWW (twice x).w (bitW (IntKind.i64.wrap (sb 1 (subP (twice x).w primeW).less))) (subP (twice x).w primeW).b = (strE x).w := by
  have ht := twice_lt x
  obtain ⟨b, l, e, hl, hb, hv⟩ := subP_eq ht
  have hlt := val_lt ht
  have hbl := val_lt hb
  have hm := twice_val x
  rw [e]
  simp only
  have hl' : l = 0 ∨ l = 1 := by omega
  rcases hl' with rfl | rfl
  · have hbit : bitW (IntKind.i64.wrap (sb 1 ((0 : Nat) : Int))) = 18446744073709551615 := by decide
    rw [hbit, (pickN ht hb).2]
    have h1 : x.num % pp = b.val := by
      rw [← hm, show (twice x).val = b.val + 1 * pp by omega, Nat.add_mul_mod_self_right, Nat.mod_eq_of_lt (by unfold pp at *; omega)]
    show b.w = (digZ (x.num % pp)).w
    rw [h1, digZ_of hb]
  · have hbit : bitW (IntKind.i64.wrap (sb 1 ((1 : Nat) : Int))) = 0 := by decide
    rw [hbit, (pickN ht hb).1]
    have h1 : x.num % pp = (twice x).val := by
      rw [← hm, Nat.mod_eq_of_lt (by unfold pp at *; omega)]
    show (twice x).w = (digZ (x.num % pp)).w
    rw [h1, digZ_of ht]
def e40 : Ent := ent1 40 pE fun x => E1 (strE x)
theorem e40_ok : EntOk Tryz.prog e40 := ent1_ok fun x => (strong_words x).turn fun ρ => by rw [strong_eq]; rfl
end Go.Proofs.YtkiaodihfofbnaaGreatDoor.X
namespace Go.Proofs.YtkiaodihfofbnaaGreatDoor.X
open Go Go.RowKit
set_option maxRecDepth 100000

/-! ### Nought -/
theorem orW_nat {a b : Nat} (ha : a < 18446744073709551616) (hb : b < 18446744073709551616) : orW a b = ((a ||| b : Nat) : Int) := by
  unfold orW
  rw [bv_nat, bv_nat, BitVec.toNat_or, BitVec.toNat_ofNat, BitVec.toNat_ofNat, Nat.mod_eq_of_lt (by omega), Nat.mod_eq_of_lt (by omega), wr_nat]
  exact Nat.or_lt_two_pow (n := 64) ha hb
def or8 (z : L8) : Int := orW (orW (orW (orW (orW (orW (orW (orW 0 z.a0) z.a1) z.a2) z.a3) z.a4) z.a5) z.a6) z.a7
def isZ (x : El) : Bool := decide (x.num % pp = 0)
theorem or_zero_iff (a b : Nat) : a ||| b = 0 ↔ a = 0 ∧ b = 0 := Nat.or_eq_zero_iff
theorem or8_eq {z : N8} (h : z.lt 72057594037927936) : (or8 z.w == 0) = decide (z.val = 0) := by
  obtain ⟨a0, a1, a2, a3, a4, a5, a6, a7⟩ := z
  obtain ⟨h0, h1, h2, h3, h4, h5, h6, h7⟩ := h
  simp only at h0 h1 h2 h3 h4 h5 h6 h7
  have up : ∀ {n : Nat}, n < 72057594037927936 → n < 18446744073709551616 := fun h => Nat.lt_trans h (by decide)
  have or_up : ∀ {a b : Nat}, a < 72057594037927936 → b < 72057594037927936 → a ||| b < 72057594037927936 := fun ha hb => Nat.or_lt_two_pow (n := 56) ha hb
  have p0 : (0 : Int) = ((0 : Nat) : Int) := rfl
  simp only [or8, N8.w]
  rw [p0, orW_nat (by decide) (up h0), Nat.zero_or]
  rw [orW_nat (up h0) (up h1)]
  have q1 := or_up h0 h1
  rw [orW_nat (up q1) (up h2)]
  have q2 := or_up q1 h2
  rw [orW_nat (up q2) (up h3)]
  have q3 := or_up q2 h3
  rw [orW_nat (up q3) (up h4)]
  have q4 := or_up q3 h4
  rw [orW_nat (up q4) (up h5)]
  have q5 := or_up q4 h5
  rw [orW_nat (up q5) (up h6)]
  have q6 := or_up q5 h6
  rw [orW_nat (up q6) (up h7)]
  rw [Bool.eq_iff_iff, beq_iff_eq, decide_eq_true_iff, Int.ofNat_inj, or_zero_iff, or_zero_iff, or_zero_iff, or_zero_iff, or_zero_iff, or_zero_iff, or_zero_iff]
  simp only [N8.val]
  clear up or_up q1 q2 q3 q4 q5 q6
  omega
theorem fun12 : Fun Tryz.prog 12 Tryz.f12 := ⟨Tryz.func12, by kernel_rfl, by kernel_rfl⟩
def e12 : Ent := ent1 12 pE fun x => B1 (isZ x)
theorem e12_ok : EntOk Tryz.prog e12 := ent1_ok fun x =>
  (plain_run (args := [E1 x]) (r := B1 (or8 (strE x).w == 0)) hm (spOk_cons e40_ok spOk_nil) fun12 false 100 (ob := []) (by kernel_rfl) met0 (by kernel_rfl)).turn fun ρ => by
    have h : (or8 (strE x).w == 0) = isZ x := by
      show (or8 (digZ (x.num % pp)).w == 0) = _
      rw [or8_eq (digZ_lt _), digZ_val (by have := Nat.mod_lt x.num (show 0 < pp by decide); unfold pp at *; omega)]
      rfl
    rw [h]
theorem fun11 : Fun Tryz.prog 11 Tryz.f11 := ⟨Tryz.func11, by kernel_rfl, by kernel_rfl⟩
def e11 : Ent := ent2 11 pE pE fun x y => B1 (isZ (subE x y))
theorem e11_ok : EntOk Tryz.prog e11 := ent2_ok fun x y =>
  plain_run (args := [E1 x, E1 y]) hm (spOk_cons e41_ok (spOk_cons e12_ok spOk_nil)) fun11 false 100 (ob := []) (by kernel_rfl) met0 (by kernel_rfl)

/-! ### Small numbers -/
def natE (n : Nat) (h : n < 72057594037927936) : El := ⟨n, 0, 0, 0, 0, 0, 0, 0, Nat.lt_trans h (by decide), by decide, by decide, by decide, by decide, by decide, by decide, by decide⟩
theorem natE_num (n : Nat) (h : n < 72057594037927936) : (natE n h).num = n := by
  simp only [El.num, El.n, natE, N8.val]
  omega
def E0 : El := natE 0 (by decide)
def E1' : El := natE 1 (by decide)
def two' : El := natE 2 (by decide)
def five' : El := natE 5 (by decide)
def dE : El := natE 39081 (by decide)
def smallE (n : Int) : Option El := match n with
  | .ofNat 0 => some E0
  | .ofNat 1 => some E1'
  | .ofNat 2 => some two'
  | .ofNat 5 => some five'
  | .ofNat 39081 => some dE
  | .negSucc 39080 => some (subE zeroEl dE)
  | _ => none
theorem smallE_cases {n : Int} {x : El} (h : smallE n = some x) : (n = 0 ∧ x = E0) ∨ (n = 1 ∧ x = E1') ∨ (n = 2 ∧ x = two') ∨ (n = 5 ∧ x = five') ∨ (n = 39081 ∧ x = dE) ∨ (n = -39081 ∧ x = subE zeroEl dE) := by
  unfold smallE at h
  split at h
  all_goals first
    | (obtain rfl := Option.some.inj h
       first | exact .inl ⟨rfl, rfl⟩ | exact .inr (.inl ⟨rfl, rfl⟩) | exact .inr (.inr (.inl ⟨rfl, rfl⟩)) | exact .inr (.inr (.inr (.inl ⟨rfl, rfl⟩))) | exact .inr (.inr (.inr (.inr (.inl ⟨rfl, rfl⟩)))) | exact .inr (.inr (.inr (.inr (.inr ⟨rfl, rfl⟩)))))
    | cases h
/-- An element, or 39081 told by its words. -/
def decEs : AV → Option El
  | .g (.agg [.e x]) => some x
  | .g (.agg [.v (.int .u64 (.ofNat 39081)), .v (.int .u64 (.ofNat 0)), .v (.int .u64 (.ofNat 0)), .v (.int .u64 (.ofNat 0)), .v (.int .u64 (.ofNat 0)), .v (.int .u64 (.ofNat 0)), .v (.int .u64 (.ofNat 0)), .v (.int .u64 (.ofNat 0))]) => some dE
  | _ => none
def pEs : Pat El := ⟨decEs, E1, fun v a _ h => by unfold decEs at h; split at h <;> first | (rw [← Option.some.inj h]; done) | (rw [← Option.some.inj h]; rfl) | cases h⟩
def e53s : Ent := ent1 53 pEs fun x => E1 (subE zeroEl x)
theorem e53s_ok : EntOk Tryz.prog e53s := ent1_ok fun x =>
  plain_run (args := [E1 x]) hm (spOk_cons e41_ok spOk_nil) fun53 false 100 (ob := []) (by kernel_rfl) met0 (by kernel_rfl)
theorem fun30 : Fun Tryz.prog 30 Tryz.f30 := ⟨Tryz.func30, by kernel_rfl, by kernel_rfl⟩
def e30 : Ent := ⟨30, fun args _ _ => match args with
  | [.g (.a (.v (.int .i64 n)))] => match smallE n with
    | some x => some ⟨E1 x, [], []⟩
    | none => none
  | _ => none⟩
theorem e30_ok : EntOk Tryz.prog e30 := fun args V kn o ho hob w0 ρ w H hR hV _ _ hfx => by
  unfold e30 at ho
  simp only at ho
  split at ho
  · rename_i n
    split at ho
    · rename_i x hx
      obtain rfl := Option.some.inj ho
      refine does_ref hR ?_
      rcases smallE_cases hx with ⟨rfl, rfl⟩ | ⟨rfl, rfl⟩ | ⟨rfl, rfl⟩ | ⟨rfl, rfl⟩ | ⟨rfl, rfl⟩ | ⟨rfl, rfl⟩
      · exact ((plain_run (args := [I1 .i64 0]) (r := W8 E0.w) hm spOk_nil fun30 false 100 (ob := []) (by kernel_rfl) met0 (by kernel_rfl)).turn (r' := E1 E0) fun ρ => rfl) w ρ
      · exact ((plain_run (args := [I1 .i64 1]) (r := W8 E1'.w) hm spOk_nil fun30 false 100 (ob := []) (by kernel_rfl) met0 (by kernel_rfl)).turn (r' := E1 E1') fun ρ => rfl) w ρ
      · exact ((plain_run (args := [I1 .i64 2]) (r := W8 two'.w) hm spOk_nil fun30 false 100 (ob := []) (by kernel_rfl) met0 (by kernel_rfl)).turn (r' := E1 two') fun ρ => rfl) w ρ
      · exact ((plain_run (args := [I1 .i64 5]) (r := W8 five'.w) hm spOk_nil fun30 false 100 (ob := []) (by kernel_rfl) met0 (by kernel_rfl)).turn (r' := E1 five') fun ρ => rfl) w ρ
      · exact ((plain_run (args := [I1 .i64 39081]) (r := W8 dE.w) hm spOk_nil fun30 false 100 (ob := []) (by kernel_rfl) met0 (by kernel_rfl)).turn (r' := E1 dE) fun ρ => rfl) w ρ
      · exact (plain_run (args := [I1 .i64 (-39081)]) (r := E1 (subE zeroEl dE)) hm (spOk_cons e53s_ok spOk_nil) fun30 false 100 (ob := []) (by kernel_rfl) met0 (by kernel_rfl)) w ρ
    · cases ho
  · cases ho

/-! ### Products with these, squares, places that change -/
theorem fun36 : Fun Tryz.prog 36 Tryz.f36 := ⟨Tryz.func36, by kernel_rfl, by kernel_rfl⟩
def e36 : Ent := ent1 36 pE fun x => E1 (mulE x x)
theorem e36_ok : EntOk Tryz.prog e36 := ent1_ok fun x =>
  plain_run (args := [E1 x]) hm (spOk_cons e33_ok spOk_nil) fun36 false 100 (ob := []) (by kernel_rfl) met0 (by kernel_rfl)
theorem fun45 : Fun Tryz.prog 45 Tryz.f45 := ⟨Tryz.func45, by kernel_rfl, by kernel_rfl⟩
def e45 : Ent := ⟨45, fun args _ _ => match args with
  | [.g (.agg [.e x]), .g (.a (.v (.int .i64 n)))] => match smallE n with
    | some y => some ⟨E1 (mulE x y), [], []⟩
    | none => none
  | _ => none⟩
theorem e45_ok : EntOk Tryz.prog e45 := fun args V kn o ho hob w0 ρ w H hR hV _ _ hfx => by
  unfold e45 at ho
  simp only at ho
  split at ho
  · rename_i x n
    split at ho
    · rename_i y hy
      obtain rfl := Option.some.inj ho
      refine does_ref hR ?_
      have run : ∀ (n : Int) (y : El), ansOf (runFn Tryz.prog (spOf [e30, e33]) false 100 Tryz.f45 [E1 x, I1 .i64 n] []) = some (E1 (mulE x y), []) → Does Tryz.prog 45 (argsV ρ [E1 x, I1 .i64 n]) w fun v w' => v = (E1 (mulE x y)).val ρ ∧ Below w.heap.size w w' :=
        fun n y h => plain_run hm (spOk_cons e30_ok (spOk_cons e33_ok spOk_nil)) fun45 false 100 h met0 (by kernel_rfl) w ρ
      rcases smallE_cases hy with ⟨rfl, rfl⟩ | ⟨rfl, rfl⟩ | ⟨rfl, rfl⟩ | ⟨rfl, rfl⟩ | ⟨rfl, rfl⟩ | ⟨rfl, rfl⟩
      all_goals exact run _ _ (by kernel_rfl)
    · cases ho
  · cases ho
theorem fun54 : Fun Tryz.prog 54 Tryz.f54 := ⟨Tryz.func54, by kernel_rfl, by kernel_rfl⟩
def e54 : Ent := ent3 54 pI pE pE fun b x y => .tup [.agg [.e (selE b x y)], .agg [.e (selE b y x)]]
theorem e54_ok : EntOk Tryz.prog e54 := ent3_ok fun b x y =>
  plain_run (args := [I1 .i64 b, E1 x, E1 y]) hm (spOk_cons e66_ok spOk_nil) fun54 false 100 (ob := []) (by kernel_rfl) met0 (by kernel_rfl)

/-! ### Powers -/
def sqE : Nat → El → El
  | 0, x => x
  | n + 1, x => mulE (sqE n x) (sqE n x)
def litN (n : Int) : Option Nat := match n with
  | .ofNat 1 => some 1
  | .ofNat 2 => some 2
  | .ofNat 3 => some 3
  | .ofNat 9 => some 9
  | .ofNat 18 => some 18
  | .ofNat 37 => some 37
  | .ofNat 111 => some 111
  | .ofNat 223 => some 223
  | _ => none
theorem litN_cases {n : Int} {k : Nat} (h : litN n = some k) : (n = 1 ∧ k = 1) ∨ (n = 2 ∧ k = 2) ∨ (n = 3 ∧ k = 3) ∨ (n = 9 ∧ k = 9) ∨ (n = 18 ∧ k = 18) ∨ (n = 37 ∧ k = 37) ∨ (n = 111 ∧ k = 111) ∨ (n = 223 ∧ k = 223) := by
  unfold litN at h
  split at h
  all_goals first
    | (obtain rfl := Option.some.inj h
       first | exact .inl ⟨rfl, rfl⟩ | exact .inr (.inl ⟨rfl, rfl⟩) | exact .inr (.inr (.inl ⟨rfl, rfl⟩)) | exact .inr (.inr (.inr (.inl ⟨rfl, rfl⟩))) | exact .inr (.inr (.inr (.inr (.inl ⟨rfl, rfl⟩)))) | exact .inr (.inr (.inr (.inr (.inr (.inl ⟨rfl, rfl⟩))))) | exact .inr (.inr (.inr (.inr (.inr (.inr (.inl ⟨rfl, rfl⟩)))))) | exact .inr (.inr (.inr (.inr (.inr (.inr (.inr ⟨rfl, rfl⟩)))))))
    | cases h
theorem fun59 : Fun Tryz.prog 59 Tryz.f59 := ⟨Tryz.func59, by kernel_rfl, by kernel_rfl⟩
def e59 : Ent := ⟨59, fun args _ _ => match args with
  | [.g (.agg [.e x]), .g (.a (.v (.int .i64 n)))] => match litN n with
    | some k => some ⟨E1 (sqE k x), [], []⟩
    | none => none
  | _ => none⟩
theorem e59_ok : EntOk Tryz.prog e59 := fun args V kn o ho hob w0 ρ w H hR hV _ _ hfx => by
  unfold e59 at ho
  simp only at ho
  split at ho
  · rename_i x n
    split at ho
    · rename_i k hk
      obtain rfl := Option.some.inj ho
      refine does_ref hR ?_
      have run : ∀ (n : Int) (k : Nat), ansOf (runFn Tryz.prog (spOf [e36]) false 1000 Tryz.f59 [E1 x, I1 .i64 n] []) = some (E1 (sqE k x), []) → Does Tryz.prog 59 (argsV ρ [E1 x, I1 .i64 n]) w fun v w' => v = (E1 (sqE k x)).val ρ ∧ Below w.heap.size w w' :=
        fun n k h => plain_run hm (spOk_cons e36_ok spOk_nil) fun59 false 1000 h met0 (by kernel_rfl) w ρ
      rcases litN_cases hk with ⟨rfl, rfl⟩ | ⟨rfl, rfl⟩ | ⟨rfl, rfl⟩ | ⟨rfl, rfl⟩ | ⟨rfl, rfl⟩ | ⟨rfl, rfl⟩ | ⟨rfl, rfl⟩ | ⟨rfl, rfl⟩
      all_goals exact run _ _ (by kernel_rfl)
    · cases ho
  · cases ho
theorem fun78 : Fun Tryz.prog 78 Tryz.f78 := ⟨Tryz.func78, by kernel_rfl, by kernel_rfl⟩
def e78 : Ent := ⟨78, fun args _ _ => match args with
  | [.g (.agg [.e x]), .g (.a (.v (.int .i64 n))), .g (.agg [.e y])] => match litN n with
    | some k => some ⟨E1 (mulE (sqE k x) y), [], []⟩
    | none => none
  | _ => none⟩
theorem e78_ok : EntOk Tryz.prog e78 := fun args V kn o ho hob w0 ρ w H hR hV _ _ hfx => by
  unfold e78 at ho
  simp only at ho
  split at ho
  · rename_i x n y
    split at ho
    · rename_i k hk
      obtain rfl := Option.some.inj ho
      refine does_ref hR ?_
      have run : ∀ (n : Int) (k : Nat), ansOf (runFn Tryz.prog (spOf [e59, e33]) false 1000 Tryz.f78 [E1 x, I1 .i64 n, E1 y] []) = some (E1 (mulE (sqE k x) y), []) → Does Tryz.prog 78 (argsV ρ [E1 x, I1 .i64 n, E1 y]) w fun v w' => v = (E1 (mulE (sqE k x) y)).val ρ ∧ Below w.heap.size w w' :=
        fun n k h => plain_run hm (spOk_cons e59_ok (spOk_cons e33_ok spOk_nil)) fun78 false 1000 h met0 (by kernel_rfl) w ρ
      rcases litN_cases hk with ⟨rfl, rfl⟩ | ⟨rfl, rfl⟩ | ⟨rfl, rfl⟩ | ⟨rfl, rfl⟩ | ⟨rfl, rfl⟩ | ⟨rfl, rfl⟩ | ⟨rfl, rfl⟩ | ⟨rfl, rfl⟩
      all_goals exact run _ _ (by kernel_rfl)
    · cases ho
  · cases ho
def jn (x : El) (n : Nat) (y : El) : El := mulE (sqE n x) y
def c3E (x : El) : El := jn (jn x 1 x) 1 x
def c9E (x : El) : El := jn (jn (c3E x) 3 (c3E x)) 3 (c3E x)
def c18E (x : El) : El := jn (c9E x) 9 (c9E x)
def c37E (x : El) : El := jn (jn (c18E x) 1 x) 18 (c18E x)
def c111E (x : El) : El := jn (jn (c37E x) 37 (c37E x)) 37 (c37E x)
def c222E (x : El) : El := jn (c111E x) 111 (c111E x)
def chE (x : El) : El := jn (jn (c222E x) 1 x) 223 (c222E x)
theorem fun60 : Fun Tryz.prog 60 Tryz.f60 := ⟨Tryz.func60, by kernel_rfl, by kernel_rfl⟩
def e60 : Ent := ent1 60 pE fun x => E1 (chE x)
theorem e60_ok : EntOk Tryz.prog e60 := ent1_ok fun x =>
  plain_run (args := [E1 x]) hm (spOk_cons e78_ok spOk_nil) fun60 false 100 (ob := []) (by kernel_rfl) met0 (by kernel_rfl)
def invE (x : El) : El := mulE (sqE 2 (chE x)) x
theorem fun34 : Fun Tryz.prog 34 Tryz.f34 := ⟨Tryz.func34, by kernel_rfl, by kernel_rfl⟩
def e34 : Ent := ent1 34 pE fun x => E1 (invE x)
theorem e34_ok : EntOk Tryz.prog e34 := ent1_ok fun x =>
  plain_run (args := [E1 x]) hm (spOk_cons e60_ok (spOk_cons e59_ok (spOk_cons e33_ok spOk_nil))) fun34 false 100 (ob := []) (by kernel_rfl) met0 (by kernel_rfl)
end Go.Proofs.YtkiaodihfofbnaaGreatDoor.X
