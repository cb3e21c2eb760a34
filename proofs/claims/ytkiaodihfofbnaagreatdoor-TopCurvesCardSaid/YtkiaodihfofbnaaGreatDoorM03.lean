/- X448 of a secret number and a point's u is the u of that number times the point (the law TopCurves): part 4 of 22 of its proof: elements: the leaves of package field. No condition. -/
import Derived.Test.YtkiaodihfofbnaaGreatDoorM02
import Derived.Test.YtkiaodihfofbnaaGreatDoorProg
import Derived.Laws.Externs
import Derived.Lib.Mul64
set_option linter.unusedVariables false
set_option linter.unusedSimpArgs false
namespace Go.Proofs.YtkiaodihfofbnaaGreatDoor.X
open Go Go.RowKit
set_option maxRecDepth 100000

theorem hm : Tryz.prog.follows .mixedOrders = true := by kernel_rfl
theorem met0 : Met [] := fun _ h => by cases h

/-! ### Words -/
def ad (a b : Int) : Int := IntKind.u64.wrap (a + b)
def sb (a b : Int) : Int := IntKind.u64.wrap (a - b)
def ml (a b : Int) : Int := IntKind.u64.wrap (a * b)
def sh (a : Int) : Int := a.fdiv (2 ^ 56)
def an (a b : Int) : Int := IntKind.u64.wrap ((BitVec.ofInt 64 a &&& BitVec.ofInt 64 b).toNat : Int)
def xo (a b : Int) : Int := IntKind.u64.wrap ((BitVec.ofInt 64 a ^^^ BitVec.ofInt 64 b).toNat : Int)
abbrev mk (a : Int) : Int := an a 72057594037927935
def limb (x : El) (i : Int) : Option Int := match i with
  | .ofNat 0 => some x.a0
  | .ofNat 1 => some x.a1
  | .ofNat 2 => some x.a2
  | .ofNat 3 => some x.a3
  | .ofNat 4 => some x.a4
  | .ofNat 5 => some x.a5
  | .ofNat 6 => some x.a6
  | .ofNat 7 => some x.a7
  | _ => none
def wlimb (x : L8) (i : Int) : Option Int := match i with
  | .ofNat 0 => some x.a0
  | .ofNat 1 => some x.a1
  | .ofNat 2 => some x.a2
  | .ofNat 3 => some x.a3
  | .ofNat 4 => some x.a4
  | .ofNat 5 => some x.a5
  | .ofNat 6 => some x.a6
  | .ofNat 7 => some x.a7
  | _ => none
theorem limb_cases {x : El} {i a : Int} (h : limb x i = some a) : (i = 0 ∧ a = x.a0) ∨ (i = 1 ∧ a = x.a1) ∨ (i = 2 ∧ a = x.a2) ∨ (i = 3 ∧ a = x.a3) ∨ (i = 4 ∧ a = x.a4) ∨ (i = 5 ∧ a = x.a5) ∨ (i = 6 ∧ a = x.a6) ∨ (i = 7 ∧ a = x.a7) := by
  unfold limb at h
  split at h
  all_goals first
    | (obtain rfl := Option.some.inj h
       first | exact .inl ⟨rfl, rfl⟩ | exact .inr (.inl ⟨rfl, rfl⟩) | exact .inr (.inr (.inl ⟨rfl, rfl⟩)) | exact .inr (.inr (.inr (.inl ⟨rfl, rfl⟩))) | exact .inr (.inr (.inr (.inr (.inl ⟨rfl, rfl⟩)))) | exact .inr (.inr (.inr (.inr (.inr (.inl ⟨rfl, rfl⟩))))) | exact .inr (.inr (.inr (.inr (.inr (.inr (.inl ⟨rfl, rfl⟩)))))) | exact .inr (.inr (.inr (.inr (.inr (.inr (.inr ⟨rfl, rfl⟩)))))))
    | cases h

/-! ### p's limbs, and what goes on from limb to limb -/
theorem fun64 : Fun Tryz.prog 64 Tryz.f64 := ⟨Tryz.func64, by kernel_rfl, by kernel_rfl⟩
def primeW : L8 := ⟨72057594037927935, 72057594037927935, 72057594037927935, 72057594037927935, 72057594037927934, 72057594037927935, 72057594037927935, 72057594037927935⟩
def e64 : Ent := ent0 64 (W8 primeW)
theorem e64_ok : EntOk Tryz.prog e64 := ent0_ok (plain_run hm spOk_nil fun64 false 100 (ob := []) (by kernel_rfl) met0 (by kernel_rfl))

def carryF (z : L8) : L8 :=
  let y0 := ad z.a0 0
  let y1 := ad z.a1 (sh y0)
  let y2 := ad z.a2 (sh y1)
  let y3 := ad z.a3 (sh y2)
  let y4 := ad z.a4 (sh y3)
  let y5 := ad z.a5 (sh y4)
  let y6 := ad z.a6 (sh y5)
  let y7 := ad z.a7 (sh y6)
  let o := sh y7
  ⟨ad (mk y0) o, mk y1, mk y2, mk y3, ad (mk y4) o, mk y5, mk y6, mk y7⟩
theorem fun58 : Fun Tryz.prog 58 Tryz.f58 := ⟨Tryz.func58, by kernel_rfl, by kernel_rfl⟩
def e58 : Ent := ent1 58 pL fun z => W8 (carryF z)
theorem e58_ok : EntOk Tryz.prog e58 := ent1_ok fun z => plain_run hm spOk_nil fun58 false 100 (ob := []) (by kernel_rfl) met0 (by kernel_rfl)

/-! ### Closures that make limbs, and the array of these -/
def rdE (V : View) (k : Nat) : Option El := match V k with
  | some b => match b.cs with
    | [.e x] => some x
    | _ => none
  | none => none
theorem rdE_spec {V : View} {k : Nat} {x : El} (h : rdE V k = some x) : ∃ t o w, V k = some ⟨[.e x], t, o, w⟩ := by
  unfold rdE at h
  split at h
  · rename_i b hb
    split at h
    · rename_i y hy
      obtain rfl := Option.some.inj h
      obtain ⟨cs, t, o, w⟩ := b
      simp only at hy
      subst hy
      exact ⟨t, o, w, hb⟩
    · cases h
  · cases h
def w8 (z : L8) : List At := [.v (.int .u64 z.a0), .v (.int .u64 z.a1), .v (.int .u64 z.a2), .v (.int .u64 z.a3), .v (.int .u64 z.a4), .v (.int .u64 z.a5), .v (.int .u64 z.a6), .v (.int .u64 z.a7)]
def rdW (V : View) (k : Nat) : Option L8 := match V k with
  | some b => match b.cs with
    | [.v (.int .u64 a), .v (.int .u64 b), .v (.int .u64 c), .v (.int .u64 d), .v (.int .u64 e), .v (.int .u64 f), .v (.int .u64 g), .v (.int .u64 h)] => some ⟨a, b, c, d, e, f, g, h⟩
    | _ => none
  | none => none
theorem rdW_spec {V : View} {k : Nat} {x : L8} (h : rdW V k = some x) : ∃ t o w, V k = some ⟨w8 x, t, o, w⟩ := by
  unfold rdW at h
  split at h
  · rename_i b hb
    split at h
    · rename_i hy
      obtain rfl := Option.some.inj h
      obtain ⟨cs, t, o, w⟩ := b
      simp only at hy
      subst hy
      exact ⟨t, o, w, hb⟩
    · cases h
  · cases h
def rdU (V : View) (k : Nat) : Option Int := match V k with
  | some b => match b.cs with
    | [.v (.int .u64 a)] => some a
    | _ => none
  | none => none
theorem rdU_spec {V : View} {k : Nat} {x : Int} (h : rdU V k = some x) : ∃ t o w, V k = some ⟨[.v (.int .u64 x)], t, o, w⟩ := by
  unfold rdU at h
  split at h
  · rename_i b hb
    split at h
    · rename_i hy
      obtain rfl := Option.some.inj h
      obtain ⟨cs, t, o, w⟩ := b
      simp only at hy
      subst hy
      exact ⟨t, o, w, hb⟩
    · cases h
  · cases h
def sel2 (j k : Nat) : Nat → Nat
  | 0 => j
  | _ => k
def sel3 (j k l : Nat) : Nat → Nat
  | 0 => j
  | 1 => k
  | _ => l
def u1 (a : Int) : AV := .g (.a (.v (.int .u64 a)))
theorem fun62 : Fun Tryz.prog 62 Tryz.f62 := ⟨Tryz.func62, by kernel_rfl, by kernel_rfl⟩

theorem fun72 : Fun Tryz.prog 72 Tryz.f72 := ⟨Tryz.func72, by kernel_rfl, by kernel_rfl⟩
def e72 : Ent := ⟨72, fun args V _ => match args with
  | [.g (.a (.v (.int .i64 i))), .g (.a (.p k0 0)), .g (.a (.p k1 0))] => match rdE V k0, rdE V k1 with
    | some x0, some x1 => match limb x0 i, limb x1 i with
      | some a0, some a1 => some ⟨u1 (ad a0 a1), [], []⟩
      | _, _ => none
    | _, _ => none
  | _ => none⟩
abbrev h72 (x0 : El) (x1 : El) (t0 : TypeId) (o0 : Bool) (t1 : TypeId) (o1 : Bool) : List (Option Blk) := [some (⟨[.e x0], t0, o0, false⟩ : Blk), some (⟨[.e x1], t1, o1, false⟩ : Blk)]
theorem e72_ok : EntOk Tryz.prog e72 := fun args V kn o ho _ w0 ρ w H hR hV _ _ hfx => by
  unfold e72 at ho
  simp only at ho
  split at ho
  · rename_i i k0 k1
    split at ho
    · rename_i x0 x1 hx0 hx1
      split at ho
      · rename_i a0 a1 ha0 ha1
        obtain rfl := Option.some.inj ho
        obtain ⟨t0, o0, w0, hx0⟩ := rdE_spec hx0
        replace hx0 := hV _ _ hx0
        obtain ⟨t1, o1, w1, hx1⟩ := rdE_spec hx1
        replace hx1 := hV _ _ hx1
        refine does_ref hR ?_
        have hH : ∀ i b0, lk (h72 x0 x1 t0 o0 t1 o1) i = some b0 → ∃ b, H (sel2 k0 k1 i) = some b ∧ b.cs = b0.cs.map (At.ren (sel2 k0 k1)) ∧ b.t = b0.t ∧ b.opn = b0.opn := fun i b0 hi => by
          match i, hi with
          | 0, hi => obtain rfl := Option.some.inj hi; exact ⟨_, hx0, rfl, rfl, rfl⟩
          | 1, hi => obtain rfl := Option.some.inj hi; exact ⟨_, hx1, rfl, rfl, rfl⟩
        have run : ∀ (i : Int) (a0 a1 : Int), ansOf (runFn Tryz.prog (spOf []) false 100 Tryz.f72 [I1 .i64 i, .g (.a (.p 0 0)), .g (.a (.p 1 0))] (h72 x0 x1 t0 o0 t1 o1)) = some (u1 (ad a0 a1), []) →
            Does Tryz.prog 72 (argsV ρ [I1 .i64 i, .g (.a (.p k0 0)), .g (.a (.p k1 0))]) w fun v w' => v = (u1 (ad a0 a1)).val ρ ∧ Below w.heap.size w w' :=
          fun i a0 a1 h => caps_run hm spOk_nil fun72 false 100 h met0 (by kernel_rfl) (sel2 k0 k1) hR hH
        rcases limb_cases ha0 with ⟨rfl, rfl⟩ | ⟨rfl, rfl⟩ | ⟨rfl, rfl⟩ | ⟨rfl, rfl⟩ | ⟨rfl, rfl⟩ | ⟨rfl, rfl⟩ | ⟨rfl, rfl⟩ | ⟨rfl, rfl⟩
        all_goals (obtain rfl := Option.some.inj ha1; exact run _ _ _ (by kernel_rfl))
      · cases ho
    · cases ho
  · cases ho
def addW (x0 : El) (x1 : El) : L8 := ⟨ad x0.a0 x1.a0, ad x0.a1 x1.a1, ad x0.a2 x1.a2, ad x0.a3 x1.a3, ad x0.a4 x1.a4, ad x0.a5 x1.a5, ad x0.a6 x1.a6, ad x0.a7 x1.a7⟩
def e62_72 : Ent := ⟨62, fun args V _ => match args with
  | [.g (.a (.c 72 [] [k0, k1]))] => match rdE V k0, rdE V k1 with
    | some x0, some x1 => some ⟨W8 (addW x0 x1), [], []⟩
    | _, _ => none
  | _ => none⟩
theorem e62_72_ok : EntOk Tryz.prog e62_72 := fun args V kn o ho _ w0 ρ w H hR hV _ _ hfx => by
  unfold e62_72 at ho
  simp only at ho
  split at ho
  · rename_i k0 k1
    split at ho
    · rename_i x0 x1 hx0 hx1
      obtain rfl := Option.some.inj ho
      obtain ⟨t0, o0, w0, hx0⟩ := rdE_spec hx0
      replace hx0 := hV _ _ hx0
      obtain ⟨t1, o1, w1, hx1⟩ := rdE_spec hx1
      replace hx1 := hV _ _ hx1
      refine does_ref hR ?_
      have hH : ∀ i b0, lk (h72 x0 x1 t0 o0 t1 o1) i = some b0 → ∃ b, H (sel2 k0 k1 i) = some b ∧ b.cs = b0.cs.map (At.ren (sel2 k0 k1)) ∧ b.t = b0.t ∧ b.opn = b0.opn := fun i b0 hi => by
        match i, hi with
        | 0, hi => obtain rfl := Option.some.inj hi; exact ⟨_, hx0, rfl, rfl, rfl⟩
        | 1, hi => obtain rfl := Option.some.inj hi; exact ⟨_, hx1, rfl, rfl, rfl⟩
      exact caps_run (args0 := [.g (.a (.c 72 [] [0, 1]))]) (H0 := h72 x0 x1 t0 o0 t1 o1) (r := W8 (addW x0 x1)) (ob := []) hm (spOk_cons e72_ok spOk_nil) fun62 false 100 (by kernel_rfl) met0 (by kernel_rfl) (sel2 k0 k1) hR hH
    · cases ho
  · cases ho

theorem fun67 : Fun Tryz.prog 67 Tryz.f67 := ⟨Tryz.func67, by kernel_rfl, by kernel_rfl⟩
def e67 : Ent := ⟨67, fun args V _ => match args with
  | [.g (.a (.v (.int .i64 i))), .g (.a (.p k0 0)), .g (.a (.p k1 0)), .g (.a (.p k2 0))] => match rdE V k0, rdW V k1, rdE V k2 with
    | some x0, some x1, some x2 => match limb x0 i, wlimb x1 i, limb x2 i with
      | some a0, some a1, some a2 => some ⟨u1 (sb (ad a0 (ml 2 a1)) a2), [], []⟩
      | _, _, _ => none
    | _, _, _ => none
  | _ => none⟩
abbrev h67 (x0 : El) (x1 : L8) (x2 : El) (t0 : TypeId) (o0 : Bool) (t1 : TypeId) (o1 : Bool) (t2 : TypeId) (o2 : Bool) : List (Option Blk) := [some (⟨[.e x0], t0, o0, false⟩ : Blk), some (⟨w8 x1, t1, o1, false⟩ : Blk), some (⟨[.e x2], t2, o2, false⟩ : Blk)]
theorem e67_ok : EntOk Tryz.prog e67 := fun args V kn o ho _ w0 ρ w H hR hV _ _ hfx => by
  unfold e67 at ho
  simp only at ho
  split at ho
  · rename_i i k0 k1 k2
    split at ho
    · rename_i x0 x1 x2 hx0 hx1 hx2
      split at ho
      · rename_i a0 a1 a2 ha0 ha1 ha2
        obtain rfl := Option.some.inj ho
        obtain ⟨t0, o0, w0, hx0⟩ := rdE_spec hx0
        replace hx0 := hV _ _ hx0
        obtain ⟨t1, o1, w1, hx1⟩ := rdW_spec hx1
        replace hx1 := hV _ _ hx1
        obtain ⟨t2, o2, w2, hx2⟩ := rdE_spec hx2
        replace hx2 := hV _ _ hx2
        refine does_ref hR ?_
        have hH : ∀ i b0, lk (h67 x0 x1 x2 t0 o0 t1 o1 t2 o2) i = some b0 → ∃ b, H (sel3 k0 k1 k2 i) = some b ∧ b.cs = b0.cs.map (At.ren (sel3 k0 k1 k2)) ∧ b.t = b0.t ∧ b.opn = b0.opn := fun i b0 hi => by
          match i, hi with
          | 0, hi => obtain rfl := Option.some.inj hi; exact ⟨_, hx0, rfl, rfl, rfl⟩
          | 1, hi => obtain rfl := Option.some.inj hi; exact ⟨_, hx1, rfl, rfl, rfl⟩
          | 2, hi => obtain rfl := Option.some.inj hi; exact ⟨_, hx2, rfl, rfl, rfl⟩
        have run : ∀ (i : Int) (a0 a1 a2 : Int), ansOf (runFn Tryz.prog (spOf []) false 100 Tryz.f67 [I1 .i64 i, .g (.a (.p 0 0)), .g (.a (.p 1 0)), .g (.a (.p 2 0))] (h67 x0 x1 x2 t0 o0 t1 o1 t2 o2)) = some (u1 (sb (ad a0 (ml 2 a1)) a2), []) →
            Does Tryz.prog 67 (argsV ρ [I1 .i64 i, .g (.a (.p k0 0)), .g (.a (.p k1 0)), .g (.a (.p k2 0))]) w fun v w' => v = (u1 (sb (ad a0 (ml 2 a1)) a2)).val ρ ∧ Below w.heap.size w w' :=
          fun i a0 a1 a2 h => caps_run hm spOk_nil fun67 false 100 h met0 (by kernel_rfl) (sel3 k0 k1 k2) hR hH
        rcases limb_cases ha0 with ⟨rfl, rfl⟩ | ⟨rfl, rfl⟩ | ⟨rfl, rfl⟩ | ⟨rfl, rfl⟩ | ⟨rfl, rfl⟩ | ⟨rfl, rfl⟩ | ⟨rfl, rfl⟩ | ⟨rfl, rfl⟩
        all_goals (obtain rfl := Option.some.inj ha1; obtain rfl := Option.some.inj ha2; exact run _ _ _ _ (by kernel_rfl))
      · cases ho
    · cases ho
  · cases ho
def subW (x0 : El) (x1 : L8) (x2 : El) : L8 := ⟨sb (ad x0.a0 (ml 2 x1.a0)) x2.a0, sb (ad x0.a1 (ml 2 x1.a1)) x2.a1, sb (ad x0.a2 (ml 2 x1.a2)) x2.a2, sb (ad x0.a3 (ml 2 x1.a3)) x2.a3, sb (ad x0.a4 (ml 2 x1.a4)) x2.a4, sb (ad x0.a5 (ml 2 x1.a5)) x2.a5, sb (ad x0.a6 (ml 2 x1.a6)) x2.a6, sb (ad x0.a7 (ml 2 x1.a7)) x2.a7⟩
def e62_67 : Ent := ⟨62, fun args V _ => match args with
  | [.g (.a (.c 67 [] [k0, k1, k2]))] => match rdE V k0, rdW V k1, rdE V k2 with
    | some x0, some x1, some x2 => some ⟨W8 (subW x0 x1 x2), [], []⟩
    | _, _, _ => none
  | _ => none⟩
theorem e62_67_ok : EntOk Tryz.prog e62_67 := fun args V kn o ho _ w0 ρ w H hR hV _ _ hfx => by
  unfold e62_67 at ho
  simp only at ho
  split at ho
  · rename_i k0 k1 k2
    split at ho
    · rename_i x0 x1 x2 hx0 hx1 hx2
      obtain rfl := Option.some.inj ho
      obtain ⟨t0, o0, w0, hx0⟩ := rdE_spec hx0
      replace hx0 := hV _ _ hx0
      obtain ⟨t1, o1, w1, hx1⟩ := rdW_spec hx1
      replace hx1 := hV _ _ hx1
      obtain ⟨t2, o2, w2, hx2⟩ := rdE_spec hx2
      replace hx2 := hV _ _ hx2
      refine does_ref hR ?_
      have hH : ∀ i b0, lk (h67 x0 x1 x2 t0 o0 t1 o1 t2 o2) i = some b0 → ∃ b, H (sel3 k0 k1 k2 i) = some b ∧ b.cs = b0.cs.map (At.ren (sel3 k0 k1 k2)) ∧ b.t = b0.t ∧ b.opn = b0.opn := fun i b0 hi => by
        match i, hi with
        | 0, hi => obtain rfl := Option.some.inj hi; exact ⟨_, hx0, rfl, rfl, rfl⟩
        | 1, hi => obtain rfl := Option.some.inj hi; exact ⟨_, hx1, rfl, rfl, rfl⟩
        | 2, hi => obtain rfl := Option.some.inj hi; exact ⟨_, hx2, rfl, rfl, rfl⟩
      exact caps_run (args0 := [.g (.a (.c 67 [] [0, 1, 2]))]) (H0 := h67 x0 x1 x2 t0 o0 t1 o1 t2 o2) (r := W8 (subW x0 x1 x2)) (ob := []) hm (spOk_cons e67_ok spOk_nil) fun62 false 100 (by kernel_rfl) met0 (by kernel_rfl) (sel3 k0 k1 k2) hR hH
    · cases ho
  · cases ho

theorem fun79 : Fun Tryz.prog 79 Tryz.f79 := ⟨Tryz.func79, by kernel_rfl, by kernel_rfl⟩
def e79 : Ent := ⟨79, fun args V _ => match args with
  | [.g (.a (.v (.int .i64 i))), .g (.a (.p k0 0)), .g (.a (.p k1 0)), .g (.a (.p k2 0))] => match rdE V k0, rdU V k1, rdE V k2 with
    | some x0, some x1, some x2 => match limb x0 i, some x1, limb x2 i with
      | some a0, some a1, some a2 => some ⟨u1 (xo a0 (an a1 (xo a0 a2))), [], []⟩
      | _, _, _ => none
    | _, _, _ => none
  | _ => none⟩
abbrev h79 (x0 : El) (x1 : Int) (x2 : El) (t0 : TypeId) (o0 : Bool) (t1 : TypeId) (o1 : Bool) (t2 : TypeId) (o2 : Bool) : List (Option Blk) := [some (⟨[.e x0], t0, o0, false⟩ : Blk), some (⟨[.v (.int .u64 x1)], t1, o1, false⟩ : Blk), some (⟨[.e x2], t2, o2, false⟩ : Blk)]
theorem e79_ok : EntOk Tryz.prog e79 := fun args V kn o ho _ w0 ρ w H hR hV _ _ hfx => by
  unfold e79 at ho
  simp only at ho
  split at ho
  · rename_i i k0 k1 k2
    split at ho
    · rename_i x0 x1 x2 hx0 hx1 hx2
      split at ho
      · rename_i a0 a1 a2 ha0 ha1 ha2
        obtain rfl := Option.some.inj ho
        obtain ⟨t0, o0, w0, hx0⟩ := rdE_spec hx0
        replace hx0 := hV _ _ hx0
        obtain ⟨t1, o1, w1, hx1⟩ := rdU_spec hx1
        replace hx1 := hV _ _ hx1
        obtain ⟨t2, o2, w2, hx2⟩ := rdE_spec hx2
        replace hx2 := hV _ _ hx2
        refine does_ref hR ?_
        have hH : ∀ i b0, lk (h79 x0 x1 x2 t0 o0 t1 o1 t2 o2) i = some b0 → ∃ b, H (sel3 k0 k1 k2 i) = some b ∧ b.cs = b0.cs.map (At.ren (sel3 k0 k1 k2)) ∧ b.t = b0.t ∧ b.opn = b0.opn := fun i b0 hi => by
          match i, hi with
          | 0, hi => obtain rfl := Option.some.inj hi; exact ⟨_, hx0, rfl, rfl, rfl⟩
          | 1, hi => obtain rfl := Option.some.inj hi; exact ⟨_, hx1, rfl, rfl, rfl⟩
          | 2, hi => obtain rfl := Option.some.inj hi; exact ⟨_, hx2, rfl, rfl, rfl⟩
        have run : ∀ (i : Int) (a0 a1 a2 : Int), ansOf (runFn Tryz.prog (spOf []) false 100 Tryz.f79 [I1 .i64 i, .g (.a (.p 0 0)), .g (.a (.p 1 0)), .g (.a (.p 2 0))] (h79 x0 x1 x2 t0 o0 t1 o1 t2 o2)) = some (u1 (xo a0 (an a1 (xo a0 a2))), []) →
            Does Tryz.prog 79 (argsV ρ [I1 .i64 i, .g (.a (.p k0 0)), .g (.a (.p k1 0)), .g (.a (.p k2 0))]) w fun v w' => v = (u1 (xo a0 (an a1 (xo a0 a2)))).val ρ ∧ Below w.heap.size w w' :=
          fun i a0 a1 a2 h => caps_run hm spOk_nil fun79 false 100 h met0 (by kernel_rfl) (sel3 k0 k1 k2) hR hH
        rcases limb_cases ha0 with ⟨rfl, rfl⟩ | ⟨rfl, rfl⟩ | ⟨rfl, rfl⟩ | ⟨rfl, rfl⟩ | ⟨rfl, rfl⟩ | ⟨rfl, rfl⟩ | ⟨rfl, rfl⟩ | ⟨rfl, rfl⟩
        all_goals (obtain rfl := Option.some.inj ha1; obtain rfl := Option.some.inj ha2; exact run _ _ _ _ (by kernel_rfl))
      · cases ho
    · cases ho
  · cases ho
def selW (x0 : El) (x1 : Int) (x2 : El) : L8 := ⟨xo x0.a0 (an x1 (xo x0.a0 x2.a0)), xo x0.a1 (an x1 (xo x0.a1 x2.a1)), xo x0.a2 (an x1 (xo x0.a2 x2.a2)), xo x0.a3 (an x1 (xo x0.a3 x2.a3)), xo x0.a4 (an x1 (xo x0.a4 x2.a4)), xo x0.a5 (an x1 (xo x0.a5 x2.a5)), xo x0.a6 (an x1 (xo x0.a6 x2.a6)), xo x0.a7 (an x1 (xo x0.a7 x2.a7))⟩
def e62_79 : Ent := ⟨62, fun args V _ => match args with
  | [.g (.a (.c 79 [] [k0, k1, k2]))] => match rdE V k0, rdU V k1, rdE V k2 with
    | some x0, some x1, some x2 => some ⟨W8 (selW x0 x1 x2), [], []⟩
    | _, _, _ => none
  | _ => none⟩
theorem e62_79_ok : EntOk Tryz.prog e62_79 := fun args V kn o ho _ w0 ρ w H hR hV _ _ hfx => by
  unfold e62_79 at ho
  simp only at ho
  split at ho
  · rename_i k0 k1 k2
    split at ho
    · rename_i x0 x1 x2 hx0 hx1 hx2
      obtain rfl := Option.some.inj ho
      obtain ⟨t0, o0, w0, hx0⟩ := rdE_spec hx0
      replace hx0 := hV _ _ hx0
      obtain ⟨t1, o1, w1, hx1⟩ := rdU_spec hx1
      replace hx1 := hV _ _ hx1
      obtain ⟨t2, o2, w2, hx2⟩ := rdE_spec hx2
      replace hx2 := hV _ _ hx2
      refine does_ref hR ?_
      have hH : ∀ i b0, lk (h79 x0 x1 x2 t0 o0 t1 o1 t2 o2) i = some b0 → ∃ b, H (sel3 k0 k1 k2 i) = some b ∧ b.cs = b0.cs.map (At.ren (sel3 k0 k1 k2)) ∧ b.t = b0.t ∧ b.opn = b0.opn := fun i b0 hi => by
        match i, hi with
        | 0, hi => obtain rfl := Option.some.inj hi; exact ⟨_, hx0, rfl, rfl, rfl⟩
        | 1, hi => obtain rfl := Option.some.inj hi; exact ⟨_, hx1, rfl, rfl, rfl⟩
        | 2, hi => obtain rfl := Option.some.inj hi; exact ⟨_, hx2, rfl, rfl, rfl⟩
      exact caps_run (args0 := [.g (.a (.c 79 [] [0, 1, 2]))]) (H0 := h79 x0 x1 x2 t0 o0 t1 o1 t2 o2) (r := W8 (selW x0 x1 x2)) (ob := []) hm (spOk_cons e79_ok spOk_nil) fun62 false 100 (by kernel_rfl) met0 (by kernel_rfl) (sel3 k0 k1 k2) hR hH
    · cases ho
  · cases ho

end Go.Proofs.YtkiaodihfofbnaaGreatDoor.X
namespace Go.Proofs.YtkiaodihfofbnaaGreatDoor.X
open Go Go.RowKit

theorem wr_nat {n : Nat} (h : n < 18446744073709551616) : IntKind.u64.wrap (n : Int) = n := by
  unfold IntKind.wrap
  simp only [IntKind.bits, IntKind.signed]
  have : (n : Int) % 18446744073709551616 = n := Int.emod_eq_of_lt (by omega) (by omega)
  simp [this]
theorem ad_nat {a b : Nat} (h : a + b < 18446744073709551616) : ad a b = ((a + b : Nat) : Int) := by
  unfold ad
  rw [← Int.natCast_add, wr_nat h]
theorem sb_nat {a b : Nat} (h : b ≤ a) (ha : a < 18446744073709551616) : sb a b = ((a - b : Nat) : Int) := by
  unfold sb
  rw [← Int.ofNat_sub h, wr_nat (by omega)]
theorem ml_nat {a b : Nat} (h : a * b < 18446744073709551616) : ml a b = ((a * b : Nat) : Int) := by
  unfold ml
  rw [← Int.natCast_mul, wr_nat h]
theorem sh_nat (a : Nat) : sh a = ((a / 72057594037927936 : Nat) : Int) := by
  unfold sh
  rw [show ((2 : Int) ^ 56) = ((72057594037927936 : Nat) : Int) from rfl, Int.fdiv_eq_ediv_of_nonneg _ (by omega), Int.natCast_ediv]
theorem bv_nat {a : Nat} : BitVec.ofInt 64 (a : Int) = BitVec.ofNat 64 a := BitVec.ofInt_natCast 64 a
theorem an_nat {a b : Nat} (ha : a < 18446744073709551616) (hb : b < 18446744073709551616) : an a b = ((a &&& b : Nat) : Int) := by
  unfold an
  rw [bv_nat, bv_nat, BitVec.toNat_and, BitVec.toNat_ofNat, BitVec.toNat_ofNat, Nat.mod_eq_of_lt (by omega), Nat.mod_eq_of_lt (by omega), wr_nat]
  exact Nat.lt_of_le_of_lt Nat.and_le_left ha
theorem xo_nat {a b : Nat} (ha : a < 18446744073709551616) (hb : b < 18446744073709551616) : xo a b = ((a ^^^ b : Nat) : Int) := by
  unfold xo
  rw [bv_nat, bv_nat, BitVec.toNat_xor, BitVec.toNat_ofNat, BitVec.toNat_ofNat, Nat.mod_eq_of_lt (by omega), Nat.mod_eq_of_lt (by omega), wr_nat]
  exact Nat.xor_lt_two_pow (n := 64) ha hb
theorem mk_nat {a : Nat} (ha : a < 18446744073709551616) : mk a = ((a % 72057594037927936 : Nat) : Int) := by
  have := an_nat (a := a) (b := 72057594037927935) ha (by omega)
  rw [show (72057594037927935 : Nat) = 2 ^ 56 - 1 from rfl, Nat.and_two_pow_sub_one_eq_mod] at this
  exact this

/-! ### Eight words as a number -/
structure N8 where
  a0 : Nat
  a1 : Nat
  a2 : Nat
  a3 : Nat
  a4 : Nat
  a5 : Nat
  a6 : Nat
  a7 : Nat
def N8.w (z : N8) : L8 := ⟨z.a0, z.a1, z.a2, z.a3, z.a4, z.a5, z.a6, z.a7⟩
def N8.val (z : N8) : Nat := z.a0 + 72057594037927936 * z.a1 + 5192296858534827628530496329220096 * z.a2 + 374144419156711147060143317175368453031918731001856 * z.a3 + 26959946667150639794667015087019630673637144422540572481103610249216 * z.a4 + 1942668892225729070919461906823518906642406839052139521251812409738904285205208498176 * z.a5 + 139984046386112763159840142535527767382602843577165595931249318810236991948760059086304843329475444736 * z.a6 + 10086913586276986678343434265636765134100413253239154346994763111486904773503285916522052161250538404046496765518544896 * z.a7
def N8.lt (z : N8) (b : Nat) : Prop := z.a0 < b ∧ z.a1 < b ∧ z.a2 < b ∧ z.a3 < b ∧ z.a4 < b ∧ z.a5 < b ∧ z.a6 < b ∧ z.a7 < b
def El.n (x : El) : N8 := ⟨x.a0, x.a1, x.a2, x.a3, x.a4, x.a5, x.a6, x.a7⟩
def N8.el (z : N8) (h : z.lt 72057594037928192) : El := ⟨z.a0, z.a1, z.a2, z.a3, z.a4, z.a5, z.a6, z.a7, h⟩
theorem El.n_w (x : El) : x.n.w = x.w := rfl
theorem El.n_lt (x : El) : x.n.lt 72057594037928192 := x.ok
def El.num (x : El) : Nat := x.n.val
/-- The prime. -/
def pp : Nat := 726838724295606890549323807888004534353641360687318060281490199180612328166730772686396383698676545930088884461843637361053498018365439

def carN (z : N8) : N8 :=
  let y1 := z.a1 + z.a0 / 72057594037927936
  let y2 := z.a2 + y1 / 72057594037927936
  let y3 := z.a3 + y2 / 72057594037927936
  let y4 := z.a4 + y3 / 72057594037927936
  let y5 := z.a5 + y4 / 72057594037927936
  let y6 := z.a6 + y5 / 72057594037927936
  let y7 := z.a7 + y6 / 72057594037927936
  let o := y7 / 72057594037927936
  ⟨z.a0 % 72057594037927936 + o, y1 % 72057594037927936, y2 % 72057594037927936, y3 % 72057594037927936, y4 % 72057594037927936 + o, y5 % 72057594037927936, y6 % 72057594037927936, y7 % 72057594037927936⟩

theorem carryF_nat {z : N8} (h : z.lt 9223372036854775808) : carryF z.w = (carN z).w := by
  obtain ⟨a0, a1, a2, a3, a4, a5, a6, a7⟩ := z
  obtain ⟨h0, h1, h2, h3, h4, h5, h6, h7⟩ := h
  simp only at h0 h1 h2 h3 h4 h5 h6 h7
  simp only [carryF, N8.w, carN]
  have e0 : ad (a0 : Int) 0 = (a0 : Int) := by have := ad_nat (a := a0) (b := 0) (by omega); simpa using this
  rw [e0, sh_nat a0]
  generalize hy1 : a1 + a0 / 72057594037927936 = y1
  rw [ad_nat (a := a1) (by omega), hy1, sh_nat y1]
  generalize hy2 : a2 + y1 / 72057594037927936 = y2
  rw [ad_nat (a := a2) (by omega), hy2, sh_nat y2]
  generalize hy3 : a3 + y2 / 72057594037927936 = y3
  rw [ad_nat (a := a3) (by omega), hy3, sh_nat y3]
  generalize hy4 : a4 + y3 / 72057594037927936 = y4
  rw [ad_nat (a := a4) (by omega), hy4, sh_nat y4]
  generalize hy5 : a5 + y4 / 72057594037927936 = y5
  rw [ad_nat (a := a5) (by omega), hy5, sh_nat y5]
  generalize hy6 : a6 + y5 / 72057594037927936 = y6
  rw [ad_nat (a := a6) (by omega), hy6, sh_nat y6]
  generalize hy7 : a7 + y6 / 72057594037927936 = y7
  rw [ad_nat (a := a7) (by omega), hy7, sh_nat y7]
  rw [mk_nat (a := a0) (by omega), mk_nat (a := y1) (by omega), mk_nat (a := y2) (by omega), mk_nat (a := y3) (by omega), mk_nat (a := y4) (by omega), mk_nat (a := y5) (by omega), mk_nat (a := y6) (by omega), mk_nat (a := y7) (by omega)]
  rw [ad_nat (by omega), ad_nat (by omega)]

theorem carN_lt {z : N8} (h : z.lt 9223372036854775808) : (carN z).lt 72057594037928192 := by
  obtain ⟨a0, a1, a2, a3, a4, a5, a6, a7⟩ := z
  obtain ⟨h0, h1, h2, h3, h4, h5, h6, h7⟩ := h
  simp only at h0 h1 h2 h3 h4 h5 h6 h7
  simp only [carN, N8.lt]
  omega

/-- What goes beyond is a multiple of p. -/
theorem carN_val (z : N8) : ∃ o, z.val = (carN z).val + o * pp := by
  obtain ⟨a0, a1, a2, a3, a4, a5, a6, a7⟩ := z
  simp only [carN, N8.val]
  generalize hy1 : a1 + a0 / 72057594037927936 = y1
  generalize hy2 : a2 + y1 / 72057594037927936 = y2
  generalize hy3 : a3 + y2 / 72057594037927936 = y3
  generalize hy4 : a4 + y3 / 72057594037927936 = y4
  generalize hy5 : a5 + y4 / 72057594037927936 = y5
  generalize hy6 : a6 + y5 / 72057594037927936 = y6
  generalize hy7 : a7 + y6 / 72057594037927936 = y7
  refine ⟨y7 / 72057594037927936, ?_⟩
  unfold pp
  omega

theorem mod_of_add {a b o : Nat} (h : a = b + o * pp) : a % pp = b % pp := by rw [h, Nat.add_mul_mod_self_right]

/-! ### Sums and differences -/
def addZ (x y : N8) : N8 := ⟨x.a0 + y.a0, x.a1 + y.a1, x.a2 + y.a2, x.a3 + y.a3, x.a4 + y.a4, x.a5 + y.a5, x.a6 + y.a6, x.a7 + y.a7⟩
theorem addZ_lt (x y : El) : (addZ x.n y.n).lt 9223372036854775808 := by
  have hx := x.ok
  have hy := y.ok
  simp only [addZ, N8.lt, El.n]
  omega
def addE (x y : El) : El := (carN (addZ x.n y.n)).el (carN_lt (addZ_lt x y))
theorem addE_num (x y : El) : (addE x y).num % pp = (x.num + y.num) % pp := by
  obtain ⟨o, h⟩ := carN_val (addZ x.n y.n)
  have h1 : (addZ x.n y.n).val = x.num + y.num := by
    simp only [addZ, N8.val, El.num]
    omega
  rw [← h1, mod_of_add h]
  rfl
theorem addW_eq (x y : El) : carryF (addW x y) = (addE x y).w := by
  have hx := x.ok
  have hy := y.ok
  have e : addW x y = (addZ x.n y.n).w := by
    simp only [addW, N8.w, addZ, El.n]
    rw [ad_nat (by omega), ad_nat (by omega), ad_nat (by omega), ad_nat (by omega), ad_nat (by omega), ad_nat (by omega), ad_nat (by omega), ad_nat (by omega)]
  rw [e, carryF_nat (addZ_lt x y)]
  rfl

def subZ (x y : N8) : N8 := ⟨x.a0 + 144115188075855870 - y.a0, x.a1 + 144115188075855870 - y.a1, x.a2 + 144115188075855870 - y.a2, x.a3 + 144115188075855870 - y.a3, x.a4 + 144115188075855868 - y.a4, x.a5 + 144115188075855870 - y.a5, x.a6 + 144115188075855870 - y.a6, x.a7 + 144115188075855870 - y.a7⟩
theorem subZ_lt (x y : El) : (subZ x.n y.n).lt 9223372036854775808 := by
  have hx := x.ok
  have hy := y.ok
  simp only [subZ, N8.lt, El.n]
  omega
def subE (x y : El) : El := (carN (subZ x.n y.n)).el (carN_lt (subZ_lt x y))
theorem subE_num (x y : El) : ((subE x y).num + y.num) % pp = x.num % pp := by
  obtain ⟨o, h⟩ := carN_val (subZ x.n y.n)
  have h1 : (subZ x.n y.n).val + y.num = x.num + 2 * pp := by
    have hy := y.ok
    simp only [subZ, N8.val, El.num, El.n, pp]
    omega
  have h2 : (carN (subZ x.n y.n)).val = (subE x y).num := rfl
  rw [h2] at h
  have h3 : x.num + 2 * pp = ((subE x y).num + y.num) + o * pp := by omega
  have h4 : (x.num + 2 * pp) % pp = x.num % pp := Nat.add_mul_mod_self_right _ _ _
  rw [← h4, h3, Nat.add_mul_mod_self_right]
theorem subW_eq (x y : El) : carryF (subW x primeW y) = (subE x y).w := by
  have hx := x.ok
  have hy := y.ok
  have e : subW x primeW y = (subZ x.n y.n).w := by
    simp only [subW, primeW, N8.w, subZ, El.n]
    have m1 : ml 2 72057594037927935 = ((144115188075855870 : Nat) : Int) := by decide
    have m2 : ml 2 72057594037927934 = ((144115188075855868 : Nat) : Int) := by decide
    rw [m1, m2, ad_nat (by omega), ad_nat (by omega), ad_nat (by omega), ad_nat (by omega), ad_nat (by omega), ad_nat (by omega), ad_nat (by omega), ad_nat (by omega)]
    rw [sb_nat (by omega) (by omega), sb_nat (by omega) (by omega), sb_nat (by omega) (by omega), sb_nat (by omega) (by omega), sb_nat (by omega) (by omega), sb_nat (by omega) (by omega), sb_nat (by omega) (by omega), sb_nat (by omega) (by omega)]
  rw [e, carryF_nat (subZ_lt x y)]
  rfl
end Go.Proofs.YtkiaodihfofbnaaGreatDoor.X
namespace Go.Proofs.YtkiaodihfofbnaaGreatDoor.X
open Go Go.RowKit
set_option maxRecDepth 100000

/-! ### Sums, differences -/
theorem fun46 : Fun Tryz.prog 46 Tryz.f46 := ⟨Tryz.func46, by kernel_rfl, by kernel_rfl⟩
def e46 : Ent := ent2 46 pE pE fun x y => E1 (addE x y)
theorem e46_ok : EntOk Tryz.prog e46 := ent2_ok fun x y =>
  (plain_run (args := [E1 x, E1 y]) (r := W8 (carryF (addW x y))) hm (spOk_cons e62_72_ok (spOk_cons e58_ok spOk_nil)) fun46 false 100 (ob := []) (by kernel_rfl) met0 (by kernel_rfl)).turn fun ρ => by rw [addW_eq]; rfl
theorem fun41 : Fun Tryz.prog 41 Tryz.f41 := ⟨Tryz.func41, by kernel_rfl, by kernel_rfl⟩

/-- An element, or nought told by its words. -/
def decEz : AV → Option El
  | .g (.agg [.e x]) => some x
  | .g (.agg [.v (.int .u64 (.ofNat 0)), .v (.int .u64 (.ofNat 0)), .v (.int .u64 (.ofNat 0)), .v (.int .u64 (.ofNat 0)), .v (.int .u64 (.ofNat 0)), .v (.int .u64 (.ofNat 0)), .v (.int .u64 (.ofNat 0)), .v (.int .u64 (.ofNat 0))]) => some zeroEl
  | _ => none
def pEz : Pat El := ⟨decEz, E1, fun v a _ h => by unfold decEz at h; split at h <;> first | (rw [← Option.some.inj h]; done) | (rw [← Option.some.inj h]; rfl) | cases h⟩
def e41 : Ent := ent2 41 pEz pE fun x y => E1 (subE x y)
theorem e41_ok : EntOk Tryz.prog e41 := ent2_ok fun x y =>
  (plain_run (args := [E1 x, E1 y]) (r := W8 (carryF (subW x primeW y))) hm (spOk_cons e64_ok (spOk_cons e62_67_ok (spOk_cons e58_ok spOk_nil))) fun41 false 100 (ob := []) (by kernel_rfl) met0 (by kernel_rfl)).turn fun ρ => by rw [subW_eq]; rfl
theorem fun53 : Fun Tryz.prog 53 Tryz.f53 := ⟨Tryz.func53, by kernel_rfl, by kernel_rfl⟩
def e53 : Ent := ent1 53 pE fun x => E1 (subE zeroEl x)
theorem e53_ok : EntOk Tryz.prog e53 := ent1_ok fun x =>
  plain_run (args := [E1 x]) hm (spOk_cons e41_ok spOk_nil) fun53 false 100 (ob := []) (by kernel_rfl) met0 (by kernel_rfl)

/-! ### Picks -/
def bitW (b : Int) : Int := sb 0 (an (IntKind.u64.wrap b) 1)
theorem bitW_cases (b : Int) : (b % 2 = 0 ∧ bitW b = 0) ∨ (b % 2 = 1 ∧ bitW b = 18446744073709551615) := by
  obtain ⟨n, hn⟩ : ∃ n : Nat, b % 18446744073709551616 = n := Int.eq_ofNat_of_zero_le (by omega)
  have hw : IntKind.u64.wrap b = n := by
    unfold IntKind.wrap
    simp only [IntKind.bits, IntKind.signed]
    simpa using hn
  have ha : an (IntKind.u64.wrap b) 1 = ((n % 2 : Nat) : Int) := by
    rw [hw]
    have := an_nat (a := n) (b := 1) (by omega) (by omega)
    rw [Nat.and_one_is_mod] at this
    exact this
  have h2 : n % 2 = 0 ∨ n % 2 = 1 := by omega
  unfold bitW
  rw [ha]
  rcases h2 with h | h <;> rw [h]
  · exact .inl ⟨by omega, by decide⟩
  · exact .inr ⟨by omega, by decide⟩
theorem and_all {a : Nat} (h : a < 18446744073709551616) : 18446744073709551615 &&& a = a := by
  rw [Nat.and_comm, show (18446744073709551615 : Nat) = 2 ^ 64 - 1 from rfl, Nat.and_two_pow_sub_one_eq_mod]
  exact Nat.mod_eq_of_lt h
theorem pick0 {a b : Nat} (ha : a < 18446744073709551616) (hb : b < 18446744073709551616) : xo a (an 0 (xo a b)) = a := by
  have hx : a ^^^ b < 18446744073709551616 := Nat.xor_lt_two_pow (n := 64) ha hb
  have e := an_nat (a := 0) (b := a ^^^ b) (by omega) hx
  rw [Nat.zero_and] at e
  rw [xo_nat ha hb, show (0 : Int) = ((0 : Nat) : Int) from rfl, e, xo_nat ha (by omega), Nat.xor_zero]
theorem pick1 {a b : Nat} (ha : a < 18446744073709551616) (hb : b < 18446744073709551616) : xo a (an 18446744073709551615 (xo a b)) = b := by
  have hx : a ^^^ b < 18446744073709551616 := Nat.xor_lt_two_pow (n := 64) ha hb
  have e := an_nat (a := 18446744073709551615) (b := a ^^^ b) (by omega) hx
  rw [and_all hx] at e
  rw [xo_nat ha hb, show (18446744073709551615 : Int) = ((18446744073709551615 : Nat) : Int) from rfl, e, xo_nat ha hx, ← Nat.xor_assoc, Nat.xor_self, Nat.zero_xor]
def selE (b : Int) (x y : El) : El := if b % 2 = 0 then x else y
theorem selW_eq (b : Int) (x y : El) : selW x (bitW b) y = (selE b x y).w := by
  have hx := x.ok
  have hy := y.ok
  rcases bitW_cases b with ⟨h, e⟩ | ⟨h, e⟩
  · rw [e]
    unfold selE
    rw [if_pos h]
    simp only [selW, El.w]
    rw [pick0 (by omega) (by omega), pick0 (by omega) (by omega), pick0 (by omega) (by omega), pick0 (by omega) (by omega), pick0 (by omega) (by omega), pick0 (by omega) (by omega), pick0 (by omega) (by omega), pick0 (by omega) (by omega)]
  · rw [e]
    unfold selE
    rw [if_neg (by omega)]
    simp only [selW, El.w]
    rw [pick1 (by omega) (by omega), pick1 (by omega) (by omega), pick1 (by omega) (by omega), pick1 (by omega) (by omega), pick1 (by omega) (by omega), pick1 (by omega) (by omega), pick1 (by omega) (by omega), pick1 (by omega) (by omega)]
theorem fun66 : Fun Tryz.prog 66 Tryz.f66 := ⟨Tryz.func66, by kernel_rfl, by kernel_rfl⟩
def e66 : Ent := ent3 66 pI pE pE fun b x y => E1 (selE b x y)
theorem e66_ok : EntOk Tryz.prog e66 := ent3_ok fun b x y =>
  (plain_run (args := [I1 .i64 b, E1 x, E1 y]) (r := W8 (selW x (bitW b) y)) hm (spOk_cons e62_79_ok spOk_nil) fun66 false 100 (ob := []) (by kernel_rfl) met0 (by kernel_rfl)).turn fun ρ => by rw [selW_eq]; rfl

/-! ### Numbers of two words -/
/-- A function without a body: it runs here and now. -/
theorem add64_run (x y c : Nat) (hc : c ≤ 1) (w : World) : (callFunc 77 #[.int .u64 (x : Int), .int .u64 (y : Int), .int .u64 (c : Int)]).run Tryz.prog w =
    .ok (.value (.tuple #[.int .u64 (((x + y + c) % 18446744073709551616 : Nat) : Int), .int .u64 (((x + y + c) / 18446744073709551616 : Nat) : Int)])) w := by
  rw [run_callFunc_extern Tryz.func77 (by kernel_rfl) (by kernel_rfl) (by kernel_rfl) (e := add64Entry) (by kernel_rfl), run_add64 x y c (by omega) (by omega) (by omega) (by omega)]
  simp only [Result.andThen]
  congr 5 <;> omega
def sub64E : Array Value → Sem Value := fun args => do
  let (x, y, b) ← Extern.MathBitsCarry.three "Sub64" args
  pure (Extern.MathBitsCarry.pair ((x + Extern.MathBitsCarry.m64 - y - b) % Extern.MathBitsCarry.m64) (if x < y + b then 1 else 0))
theorem sub64_run (x y : Nat) (w : World) : (callFunc 65 #[.int .u64 (x : Int), .int .u64 (y : Int), .int .u64 (0 : Int)]).run Tryz.prog w =
    .ok (.value (.tuple #[.int .u64 (((x + 18446744073709551616 - y) % 18446744073709551616 : Nat) : Int), .int .u64 ((if x < y then 1 else 0 : Nat) : Int)])) w := by
  rw [run_callFunc_extern Tryz.func65 (by kernel_rfl) (by kernel_rfl) (by kernel_rfl) (e := sub64E) (by kernel_rfl)]
  rfl
def e77 : Ent := ⟨77, fun args _ _ => match args with
  | [.g (.a (.v (.int .u64 (.ofNat x)))), .g (.a (.v (.int .u64 (.ofNat y)))), .g (.a (.v (.int .u64 (.ofNat c))))] =>
    some ⟨.tup [.a (.v (.int .u64 (((x + y + c) % 18446744073709551616 : Nat) : Int))), .a (.v (.int .u64 (((x + y + c) / 18446744073709551616 : Nat) : Int)))], [], [c ≤ 1]⟩
  | _ => none⟩
theorem e77_ok : EntOk Tryz.prog e77 := fun args V kn o ho hob w0 ρ w H hR hV _ _ hfx => by
  unfold e77 at ho
  simp only at ho
  split at ho
  · rename_i x y c
    obtain rfl := Option.some.inj ho
    exact .inr ⟨_, w, add64_run x y c hob.one w, ρ, fun _ _ => rfl, rfl, hR⟩
  · cases ho
def e65 : Ent := ⟨65, fun args _ _ => match args with
  | [.g (.a (.v (.int .u64 (.ofNat x)))), .g (.a (.v (.int .u64 (.ofNat y)))), .g (.a (.v (.int .u64 (.ofNat 0))))] =>
    some ⟨.tup [.a (.v (.int .u64 (((x + 18446744073709551616 - y) % 18446744073709551616 : Nat) : Int))), .a (.v (.int .u64 ((if x < y then 1 else 0 : Nat) : Int)))], [], []⟩
  | _ => none⟩
theorem e65_ok : EntOk Tryz.prog e65 := fun args V kn o ho hob w0 ρ w H hR hV _ _ hfx => by
  unfold e65 at ho
  simp only at ho
  split at ho
  · rename_i x y
    obtain rfl := Option.some.inj ho
    exact .inr ⟨_, w, sub64_run x y w, ρ, fun _ _ => rfl, rfl, hR⟩
  · cases ho

/-- Two words as they come. -/
abbrev D1 (n : Nat) : AV := .g (.agg [.d n])
abbrev WW (h l : Int) : AV := .g (.agg [.v (.int .u64 h), .v (.int .u64 l)])
def lo64 (n : Nat) : Nat := n % 18446744073709551616
def hi64 (n : Nat) : Nat := n / 18446744073709551616 % 18446744073709551616
theorem fun56 : Fun Tryz.prog 56 Tryz.f56 := ⟨Tryz.func56, by kernel_rfl, by kernel_rfl⟩
theorem add_plain (n m : Nat) : Plain Tryz.prog 56 [D1 n, D1 m] (D1 (n + m)) :=
  (plain_run (args := [D1 n, D1 m]) (r := WW (((hi64 n + hi64 m + (lo64 n + lo64 m + 0) / 18446744073709551616) % 18446744073709551616 : Nat) : Int) (((lo64 n + lo64 m + 0) % 18446744073709551616 : Nat) : Int))
    hm (spOk_cons e77_ok spOk_nil) fun56 false 100 (ob := [(lo64 n + lo64 m + 0) / 18446744073709551616 ≤ 1, 0 ≤ 1]) (by kernel_rfl)
    (fun p hp => by
      simp only [List.mem_cons, List.not_mem_nil, or_false] at hp
      rcases hp with rfl | rfl
      · unfold lo64; omega
      · omega) (by kernel_rfl)).turn fun ρ => by
      have e1 : (hi64 n + hi64 m + (lo64 n + lo64 m + 0) / 18446744073709551616) % 18446744073709551616 = (n + m) / 18446744073709551616 % 18446744073709551616 := by unfold hi64 lo64; omega
      have e2 : (lo64 n + lo64 m + 0) % 18446744073709551616 = (n + m) % 18446744073709551616 := by unfold lo64; omega
      rw [e1, e2]; rfl
end Go.Proofs.YtkiaodihfofbnaaGreatDoor.X
namespace Go.Proofs.YtkiaodihfofbnaaGreatDoor.X
open Go Go.RowKit
set_option maxRecDepth 100000

/-- Two words, or nought told by its words. -/
def decDz : AV → Option Nat
  | .g (.agg [.d n]) => some n
  | .g (.agg [.v (.int .u64 (.ofNat 0)), .v (.int .u64 (.ofNat 0))]) => some 0
  | _ => none
def pDz : Pat Nat := ⟨decDz, D1, fun v a _ h => by unfold decDz at h; split at h <;> first | (rw [← Option.some.inj h]; done) | (rw [← Option.some.inj h]; rfl) | cases h⟩
def e56 : Ent := ent2 56 pDz pDz fun n m => D1 (n + m)
theorem e56_ok : EntOk Tryz.prog e56 := ent2_ok add_plain

/-- A number of two words, and two words as they come. -/
def e56w : Ent := ⟨56, fun args _ _ => match args with
  | [.g (.agg [.d n]), .g (.agg [.v (.int .u64 h), .v (.int .u64 l)])] => some ⟨D1 (n + (h.toNat * 18446744073709551616 + l.toNat)), [], [0 ≤ h ∧ h < 18446744073709551616 ∧ 0 ≤ l ∧ l < 18446744073709551616]⟩
  | _ => none⟩
theorem e56w_ok : EntOk Tryz.prog e56w := fun args V kn o ho hob w0 ρ w H hR hV _ _ hfx => by
  unfold e56w at ho
  simp only at ho
  split at ho
  · rename_i n h l
    obtain rfl := Option.some.inj ho
    obtain ⟨h0, h1, l0, l1⟩ := hob.one
    obtain ⟨a, rfl⟩ := Int.eq_ofNat_of_zero_le h0
    obtain ⟨b, rfl⟩ := Int.eq_ofNat_of_zero_le l0
    have e : argsV ρ [D1 n, WW (a : Int) (b : Int)] = argsV ρ [D1 n, D1 (a * 18446744073709551616 + b)] := by
      have e1 : (a * 18446744073709551616 + b) / 18446744073709551616 % 18446744073709551616 = a := by omega
      have e2 : (a * 18446744073709551616 + b) % 18446744073709551616 = b := by omega
      simp only [argsV, List.map_cons, List.map_nil, AV.val, G.val, flat, List.flatMap_cons, List.flatMap_nil, At.cells, At.val, dcells, e1, e2]
      rfl
    have := add_plain n (a * 18446744073709551616 + b) w ρ
    rw [← e] at this
    exact does_ref hR this
  · cases ho

/-! ### Words times words -/
def sh32 (a : Int) : Int := a.fdiv (2 ^ 32)
abbrev mk32 (a : Int) : Int := an a 4294967295
def mulT (x y : Int) : Int := ad (ml (sh32 x) (mk32 y)) (sh32 (ml (mk32 x) (mk32 y)))
def mulHi (x y : Int) : Int := ad (ad (ml (sh32 x) (sh32 y)) (sh32 (mulT x y))) (sh32 (ad (mk32 (mulT x y)) (ml (mk32 x) (sh32 y))))
theorem fun76 : Fun Tryz.prog 76 Tryz.f76 := ⟨Tryz.func76, by kernel_rfl, by kernel_rfl⟩
def decW : AV → Option Int
  | .g (.a (.v (.int .u64 z))) => some z
  | _ => none
def pW : Pat Int := ⟨decW, I1 .u64, fun v a _ h => by unfold decW at h; split at h <;> first | (rw [← Option.some.inj h]; done) | cases h⟩
def e76 : Ent := ent2 76 pW pW fun x y => .tup [.a (.v (.int .u64 (mulHi x y))), .a (.v (.int .u64 (ml x y)))]
theorem e76_ok : EntOk Tryz.prog e76 := ent2_ok fun x y =>
  plain_run (args := [I1 .u64 x, I1 .u64 y]) hm spOk_nil fun76 false 100 (ob := []) (by kernel_rfl) met0 (by kernel_rfl)

def mulN (x y : Int) : Nat := (mulHi x y).toNat * 18446744073709551616 + (ml x y).toNat
theorem wrap_range (n : Int) : 0 ≤ IntKind.u64.wrap n ∧ IntKind.u64.wrap n < 18446744073709551616 := by
  unfold IntKind.wrap
  simp only [IntKind.bits, IntKind.signed]
  simp only [Bool.false_and, Bool.false_eq_true, if_false]
  have : (2 : Int) ^ 64 = 18446744073709551616 := rfl
  omega
theorem fun55 : Fun Tryz.prog 55 Tryz.f55 := ⟨Tryz.func55, by kernel_rfl, by kernel_rfl⟩
def e55 : Ent := ent3 55 pDz pW pW fun n x y => D1 (n + mulN x y)
theorem e55_ok : EntOk Tryz.prog e55 := ent3_ok fun n x y =>
  plain_run (args := [D1 n, I1 .u64 x, I1 .u64 y]) hm (spOk_cons e76_ok (spOk_cons e56w_ok spOk_nil)) fun55 false 100 (ob := [0 ≤ mulHi x y ∧ mulHi x y < 18446744073709551616 ∧ 0 ≤ ml x y ∧ ml x y < 18446744073709551616]) (by kernel_rfl)
    (fun p hp => by
      rw [List.mem_singleton.1 hp]
      exact ⟨(wrap_range _).1, (wrap_range _).2, (wrap_range _).1, (wrap_range _).2⟩) (by kernel_rfl)

theorem fun57 : Fun Tryz.prog 57 Tryz.f57 := ⟨Tryz.func57, by kernel_rfl, by kernel_rfl⟩
def orW (a b : Int) : Int := IntKind.u64.wrap ((BitVec.ofInt 64 a ||| BitVec.ofInt 64 b).toNat : Int)
theorem over_words (n : Nat) : sh (hi64 n : Nat) = ((n % 340282366920938463463374607431768211456 / 72057594037927936 / 18446744073709551616 % 18446744073709551616 : Nat) : Int) ∧
    orW (ml (hi64 n : Nat) (2 ^ 8)) (sh (lo64 n : Nat)) = ((n % 340282366920938463463374607431768211456 / 72057594037927936 % 18446744073709551616 : Nat) : Int) := by
  constructor
  · rw [sh_nat]; unfold hi64; congr 1; omega
  · have hm : ml ((hi64 n : Nat) : Int) (2 ^ 8) = ((hi64 n * 256 % 18446744073709551616 : Nat) : Int) := by
      unfold ml IntKind.wrap
      simp only [IntKind.bits, IntKind.signed]
      simp only [Bool.false_and, Bool.false_eq_true, if_false]
      rw [show ((2 : Int) ^ 8) = ((256 : Nat) : Int) from rfl, show ((2 : Int) ^ 64) = ((18446744073709551616 : Nat) : Int) from rfl, ← Int.natCast_mul, ← Int.natCast_emod]
    rw [hm, sh_nat]
    unfold orW
    have h1 : hi64 n * 256 % 18446744073709551616 < 18446744073709551616 := Nat.mod_lt _ (by omega)
    have h2 : lo64 n / 72057594037927936 < 256 := by unfold lo64; omega
    have t1 : (hi64 n * 256 % 18446744073709551616) % 2 ^ 64 = hi64 n * 256 % 18446744073709551616 := Nat.mod_eq_of_lt h1
    have t2 : lo64 n / 72057594037927936 % 2 ^ 64 = lo64 n / 72057594037927936 := Nat.mod_eq_of_lt (by omega)
    rw [bv_nat, bv_nat, BitVec.toNat_or, BitVec.toNat_ofNat, BitVec.toNat_ofNat, t1, t2]
    have h3 : hi64 n * 256 % 18446744073709551616 = (hi64 n % 72057594037927936) <<< 8 := by rw [Nat.shiftLeft_eq]; omega
    rw [h3, ← Nat.shiftLeft_add_eq_or_of_lt (by omega : lo64 n / 72057594037927936 < 2 ^ 8), Nat.shiftLeft_eq, wr_nat (by omega)]
    unfold hi64 lo64
    congr 1
    omega
def e57 : Ent := ent1 57 pDz fun n => D1 (n % 340282366920938463463374607431768211456 / 72057594037927936)
theorem e57_ok : EntOk Tryz.prog e57 := ent1_ok fun n =>
  (plain_run (args := [D1 n]) (r := WW (sh (hi64 n : Nat)) (orW (ml (hi64 n : Nat) (2 ^ 8)) (sh (lo64 n : Nat)))) hm spOk_nil fun57 false 100 (ob := []) (by kernel_rfl) met0 (by kernel_rfl)).turn fun ρ => by
    rw [(over_words n).1, (over_words n).2]; rfl

/-! ### The product, as it is reckoned -/
def mulW (x y : El) : L8 :=
  let c0 := 0 + mulN x.a0 y.a0
  let c1 := 0 + mulN x.a0 y.a1 + mulN x.a1 y.a0
  let c2 := 0 + mulN x.a0 y.a2 + mulN x.a1 y.a1 + mulN x.a2 y.a0
  let c3 := 0 + mulN x.a0 y.a3 + mulN x.a1 y.a2 + mulN x.a2 y.a1 + mulN x.a3 y.a0
  let c4 := 0 + mulN x.a0 y.a4 + mulN x.a1 y.a3 + mulN x.a2 y.a2 + mulN x.a3 y.a1 + mulN x.a4 y.a0
  let c5 := 0 + mulN x.a0 y.a5 + mulN x.a1 y.a4 + mulN x.a2 y.a3 + mulN x.a3 y.a2 + mulN x.a4 y.a1 + mulN x.a5 y.a0
  let c6 := 0 + mulN x.a0 y.a6 + mulN x.a1 y.a5 + mulN x.a2 y.a4 + mulN x.a3 y.a3 + mulN x.a4 y.a2 + mulN x.a5 y.a1 + mulN x.a6 y.a0
  let c7 := 0 + mulN x.a0 y.a7 + mulN x.a1 y.a6 + mulN x.a2 y.a5 + mulN x.a3 y.a4 + mulN x.a4 y.a3 + mulN x.a5 y.a2 + mulN x.a6 y.a1 + mulN x.a7 y.a0
  let c8 := 0 + mulN x.a1 y.a7 + mulN x.a2 y.a6 + mulN x.a3 y.a5 + mulN x.a4 y.a4 + mulN x.a5 y.a3 + mulN x.a6 y.a2 + mulN x.a7 y.a1
  let c9 := 0 + mulN x.a2 y.a7 + mulN x.a3 y.a6 + mulN x.a4 y.a5 + mulN x.a5 y.a4 + mulN x.a6 y.a3 + mulN x.a7 y.a2
  let c10 := 0 + mulN x.a3 y.a7 + mulN x.a4 y.a6 + mulN x.a5 y.a5 + mulN x.a6 y.a4 + mulN x.a7 y.a3
  let c11 := 0 + mulN x.a4 y.a7 + mulN x.a5 y.a6 + mulN x.a6 y.a5 + mulN x.a7 y.a4
  let c12 := 0 + mulN x.a5 y.a7 + mulN x.a6 y.a6 + mulN x.a7 y.a5
  let c13 := 0 + mulN x.a6 y.a7 + mulN x.a7 y.a6
  let c14 := 0 + mulN x.a7 y.a7
  let f0 := c6 + c14
  let f1 := c10 + c14
  let f2 := c5 + c13
  let f3 := c9 + c13
  let f4 := c4 + c12
  let f5 := c8 + c12
  let f6 := c3 + c11
  let f7 := c7 + c11
  let f8 := c2 + f1
  let f9 := f0 + f1
  let f10 := c1 + f3
  let f11 := f2 + f3
  let f12 := c0 + f5
  let f13 := f4 + f5
  let n0 := f12 + 0
  let o0 := n0 % 340282366920938463463374607431768211456 / 72057594037927936
  let n1 := f10 + o0
  let o1 := n1 % 340282366920938463463374607431768211456 / 72057594037927936
  let n2 := f8 + o1
  let o2 := n2 % 340282366920938463463374607431768211456 / 72057594037927936
  let n3 := f6 + o2
  let o3 := n3 % 340282366920938463463374607431768211456 / 72057594037927936
  let n4 := f13 + o3
  let o4 := n4 % 340282366920938463463374607431768211456 / 72057594037927936
  let n5 := f11 + o4
  let o5 := n5 % 340282366920938463463374607431768211456 / 72057594037927936
  let n6 := f9 + o5
  let o6 := n6 % 340282366920938463463374607431768211456 / 72057594037927936
  let n7 := f7 + o6
  let o7 := n7 % 340282366920938463463374607431768211456 / 72057594037927936
  let low : Int := mk (o7 % 18446744073709551616 : Nat)
  let high : Int := ((o7 % 340282366920938463463374607431768211456 / 72057594037927936) % 18446744073709551616 : Nat)
  ⟨ad (mk (n0 % 18446744073709551616 : Nat)) low, ad (mk (n1 % 18446744073709551616 : Nat)) high, mk (n2 % 18446744073709551616 : Nat), mk (n3 % 18446744073709551616 : Nat), ad (mk (n4 % 18446744073709551616 : Nat)) low, ad (mk (n5 % 18446744073709551616 : Nat)) high, mk (n6 % 18446744073709551616 : Nat), mk (n7 % 18446744073709551616 : Nat)⟩
theorem fun33 : Fun Tryz.prog 33 Tryz.f33 := ⟨Tryz.func33, by kernel_rfl, by kernel_rfl⟩
theorem mul_words (x y : El) : Plain Tryz.prog 33 [E1 x, E1 y] (W8 (carryF (mulW x y))) :=
  plain_run (args := [E1 x, E1 y]) hm (spOk_cons e55_ok (spOk_cons e56_ok (spOk_cons e57_ok (spOk_cons e58_ok spOk_nil)))) fun33 false 100 (ob := []) (by kernel_rfl) met0 (by kernel_rfl)
end Go.Proofs.YtkiaodihfofbnaaGreatDoor.X
