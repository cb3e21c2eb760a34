/- X448 of a secret number and a point's u is the u of that number times the point (the law TopCurves): part 19 of 22 of its proof: the ladder is the u of so many times the point. No condition. -/
import Derived.Test.YtkiaodihfofbnaaGreatDoorM17
set_option linter.unusedVariables false
set_option linter.unusedSimpArgs false
namespace Go.Proofs.YtkiaodihfofbnaaGreatDoor.X
open Go Go.RowKit
open Go.Proofs.YtkiaodihfofbnaaGreatDoor.Cv (P dd okd smul smul_add)
set_option maxRecDepth 100000

theorem fv_dE : fv dE = -dd := by
  have h : fv negD = 0 - fv dE := by unfold negD; rw [fv_sub, fv_zero]
  rw [fv_negD] at h
  rw [h]
  generalize fv dE = a
  grind
def Sl (A : CP) (s : LS) (m : Nat) : Prop := Cv.St okd A s.b m (fv s.x.1) (fv s.z.1) (fv s.x.2) (fv s.z.2)
theorem swE_zero (p : El × El) : swE (bI false) p = p := by unfold swE selE bI; rfl
theorem swE_one (p : El × El) : swE (bI true) p = (p.2, p.1) := by unfold swE selE bI; rfl
/-- The swap puts the state as the next bit wants it. -/
theorem swap_tells {A : CP} {s : LS} {m : Nat} (h : Sl A s m) (b : Bool) : Cv.St okd A b m (fv (swE (bI (b != s.b)) s.x).1) (fv (swE (bI (b != s.b)) s.z).1) (fv (swE (bI (b != s.b)) s.x).2) (fv (swE (bI (b != s.b)) s.z).2) := by
  obtain ⟨x, z, c⟩ := s
  unfold Sl at h
  simp only at h ⊢
  have hs := Cv.St_swap okd h
  cases b <;> cases c
  · rw [show (false != false) = false from rfl, swE_zero, swE_zero]; exact h
  · rw [show (false != true) = true from rfl, swE_one, swE_one]; exact hs
  · rw [show (true != false) = true from rfl, swE_one, swE_one]; exact hs
  · rw [show (true != true) = false from rfl, swE_zero, swE_zero]; exact h
theorem fv_step {A : CP} {u : El} (hx : A.x ≠ 0) (hy : A.y ≠ 0) (hu : fv u * (A.x * A.x) = A.y * A.y) {b : Bool} {m : Nat} {x z : El × El} (h : Cv.St okd A b m (fv x.1) (fv z.1) (fv x.2) (fv z.2)) : Sl A ⟨stepX x z, stepZ u x z, b⟩ (2 * m + b.toNat) := by
  have := Cv.St_step okd A fv_dE hx hy hu h
  unfold Sl
  simp only [stepX, stepZ, fv_mul, fv_add, fv_sub]
  exact this
theorem smul_one (A : CP) : smul okd 1 A = A := by
  show Cv.add okd Cv.zero A = A
  rw [Cv.zero_add]
theorem lad_state {l : List Int} {A : CP} {u : El} (hx : A.x ≠ 0) (hy : A.y ≠ 0) (hu : fv u * (A.x * A.x) = A.y * A.y) : ∀ j, Sl A (ladS l u j) (nb l j)
  | 0 => by
    show (Cv.St okd A false 0 (fv E1') (fv E0) (fv u) (fv E1'))
    rw [fv_E1, fv_E0]
    refine (⟨Cv.rel_zero, ?_⟩ : Cv.Rel (1 : FP) 0 (smul okd 0 A) ∧ Cv.Rel (fv u) 1 (smul okd 1 A))
    rw [smul_one]
    exact Cv.rel_one A hx hu
  | j + 1 => fv_step hx hy hu (swap_tells (lad_state hx hy hu j) (tbit l (447 - j)))
theorem lad_end {A : CP} {s : LS} {m : Nat} (h : Sl A s m) : fv (endS s) = (smul okd m A).y * (smul okd m A).y * ((smul okd m A).x * (smul okd m A).x)⁻¹ := by
  have hs := swap_tells h false
  unfold endS
  rw [fv_mul, fv_inv]
  exact Cv.rel_end hs.1

/-! ### At u = 0 -/
theorem zero_next {u : El} (hu : fv u = 0) {x z : El × El} (h : fv x.1 * fv z.1 = 0) : fv (stepZ u x z).1 = 0 ∧ fv (stepZ u x z).2 = 0 := by
  constructor
  · simp only [stepZ, fv_mul, fv_add, fv_sub]
    exact Cv.zero_step h
  · simp only [stepZ, fv_mul, fv_sub, fv_add, hu]
    grind
theorem sw_fst (b : Bool) (p : El × El) : (swE (bI b) p).1 = if b then p.2 else p.1 := by
  cases b
  · rw [swE_zero]; rfl
  · rw [swE_one]; rfl
theorem zero_mul_z {a b : FP} (h : b = 0) : a * b = 0 := by rw [h]; grind
theorem lad_zero_state (l : List Int) {u : El} (hu : fv u = 0) : ∀ j, fv (ladS l u (j + 1)).z.1 = 0 ∧ fv (ladS l u (j + 1)).z.2 = 0
  | 0 => by
    refine zero_next hu ?_
    rw [sw_fst, sw_fst]
    show fv (if (tbit l (447 - 0) != false) then u else E1') * fv (if (tbit l (447 - 0) != false) then E1' else E0) = 0
    cases (tbit l (447 - 0) != false)
    · exact zero_mul_z fv_E0
    · show fv u * fv E1' = 0
      rw [hu]; grind
  | j + 1 => by
    obtain ⟨h1, h2⟩ := lad_zero_state l hu j
    refine zero_next hu (zero_mul_z ?_)
    rw [sw_fst]
    show fv (if (tbit l (447 - (j + 1)) != (ladS l u (j + 1)).b) then (ladS l u (j + 1)).z.2 else (ladS l u (j + 1)).z.1) = 0
    cases (tbit l (447 - (j + 1)) != (ladS l u (j + 1)).b)
    · exact h1
    · exact h2
theorem lad_zero (l : List Int) {u : El} (hu : fv u = 0) : fv (ladE l u) = 0 := by
  obtain ⟨h1, h2⟩ := lad_zero_state l hu 447
  unfold ladE endS
  rw [fv_mul, fv_inv]
  have hz : fv (swE (bI (false != (ladS l u (447 + 1)).b)) (ladS l u (447 + 1)).z).1 = 0 := by
    rw [sw_fst]
    cases (false != (ladS l u (447 + 1)).b)
    · exact h1
    · exact h2
  show _ * (fv (swE (bI (false != (ladS l u (447 + 1)).b)) (ladS l u (447 + 1)).z).1)⁻¹ = 0
  rw [hz, Cv.Fd.inv_zero]
  exact zero_mul_z rfl
/-- The ladder, at any point. -/
theorem lad_tells {l : List Int} (h4 : nb l 448 % 4 = 0) {u : El} {A : CP} (hu : fv u = A.y * A.y * (A.x * A.x)⁻¹) :
    fv (ladE l u) = (smul okd (nb l 448) A).y * (smul okd (nb l 448) A).y * ((smul okd (nb l 448) A).x * (smul okd (nb l 448) A).x)⁻¹ := by
  have four : A.x = 0 ∨ A.y = 0 → smul okd (nb l 448) A = Cv.zero := fun h => by
    rw [show nb l 448 = 4 * (nb l 448 / 4) by omega, Cv.smul_mul, Cv.four_zero okd A h, Cv.smul_zero]
  have zz : (Cv.zero : CP).y * (Cv.zero : CP).y * ((Cv.zero : CP).x * (Cv.zero : CP).x)⁻¹ = 0 := by
    show (1 : FP) * 1 * ((0 : FP) * 0)⁻¹ = 0
    rw [show (0 : FP) * 0 = 0 by grind, Cv.Fd.inv_zero]
    grind
  by_cases hx : A.x = 0
  · have h0 : fv u = 0 := by rw [hu, hx, show (0 : FP) * 0 = 0 by grind, Cv.Fd.inv_zero]; exact zero_mul_z rfl
    rw [four (.inl hx), zz, lad_zero l h0]
  · by_cases hy : A.y = 0
    · have h0 : fv u = 0 := by rw [hu, hy]; grind
      rw [four (.inr hy), zz, lad_zero l h0]
    · have hi := Cv.inv_mul (Cv.mul_ne hx hx)
      exact lad_end (lad_state hx hy (by rw [hu]; grind) 448)

/-! ### A clamped number is a multiple of four -/
theorem low_bits : ∀ B : Nat, B < 256 → (orB (anB (B : Int) 252) 0) / 2 ^ 0 % 2 = 0 ∧ (orB (anB (B : Int) 252) 0) / 2 ^ 1 % 2 = 0 := by decide
theorem clamp_low {k : List Int} (hb : Bytes256 k) (hl : k.length = 56) : tbit (clampL k) 0 = false ∧ tbit (clampL k) 1 = false := by
  obtain ⟨B, hB, hB2⟩ := hb.get 0
  have h0 : (clampL k).getD 0 0 = orB (anB (B : Int) 252) 0 := by
    unfold clampL setB
    rw [List.getD_eq_getElem?_getD, List.getElem?_set_ne (by decide), List.getElem?_set_self (by omega), hB]
    rfl
  obtain ⟨h1, h2⟩ := low_bits B hB2
  constructor
  · unfold tbit
    rw [show 0 / 8 = 0 from rfl, show 0 % 8 = 0 from rfl, h0, h1]; rfl
  · unfold tbit
    rw [show 1 / 8 = 0 from rfl, show 1 % 8 = 1 from rfl, h0, h2]; rfl
theorem clamp_four {k : List Int} (hb : Bytes256 k) (hl : k.length = 56) : nb (clampL k) 448 % 4 = 0 := by
  obtain ⟨h0, h1⟩ := clamp_low hb hl
  have e : nb (clampL k) 448 = 2 * (2 * nb (clampL k) 446 + (tbit (clampL k) 1).toNat) + (tbit (clampL k) 0).toNat := rfl
  rw [e, h0, h1]
  show (2 * (2 * _ + 0) + 0) % 4 = 0
  omega
end Go.Proofs.YtkiaodihfofbnaaGreatDoor.X
namespace Go.Proofs.YtkiaodihfofbnaaGreatDoor.X
open Go Go.RowKit
open Go.Proofs.YtkiaodihfofbnaaGreatDoor.Cv (P dd okd)
set_option maxRecDepth 100000

structure NS where
  x0 : Nat
  x1 : Nat
  z0 : Nat
  z1 : Nat
  b : Bool
def mN (a b : Nat) : Nat := a * b % P
def aN (a b : Nat) : Nat := (a + b) % P
def sN (a b : Nat) : Nat := (P - b + a) % P
def coreN (u x0 x1 z0 z1 : Nat) (b : Bool) : NS :=
  let a := aN x0 z0
  let c := sN x0 z0
  let s := mN (sN x1 z1) a
  let t := mN (aN x1 z1) c
  let aa := mN a a
  let cc := mN c c
  let w := sN aa cc
  ⟨mN aa cc, mN (aN s t) (aN s t), mN w (aN aa (mN w 39081)), mN u (mN (sN s t) (sN s t)), b⟩
def stepN (u : Nat) (b : Bool) (s : NS) : NS := match b != s.b with
  | true => coreN u s.x1 s.x0 s.z1 s.z0 b
  | false => coreN u s.x0 s.x1 s.z0 s.z1 b
def runN (l : List Int) (u : Nat) : Nat → Nat → NS → NS
  | 0, _, s => s
  | n + 1, j, s => runN l u n (j + 1) (stepN u (tbit l (447 - j)) s)
def vE (x : El) : Nat := (fv x).val
def vS (s : LS) : NS := ⟨vE s.x.1, vE s.x.2, vE s.z.1, vE s.z.2, s.b⟩
theorem vE_mul (x y : El) : vE (mulE x y) = mN (vE x) (vE y) := by unfold vE; rw [fv_mul, Fin.val_mul]; rfl
theorem vE_add (x y : El) : vE (addE x y) = aN (vE x) (vE y) := by unfold vE; rw [fv_add, Fin.val_add]; rfl
theorem vE_sub (x y : El) : vE (subE x y) = sN (vE x) (vE y) := by unfold vE; rw [fv_sub, Fin.sub_def]; rfl
theorem vE_d : vE dE = 39081 := by kernel_rfl
theorem vS_core (u : El) (x z : El × El) (b : Bool) : vS ⟨stepX x z, stepZ u x z, b⟩ = coreN (vE u) (vE x.1) (vE x.2) (vE z.1) (vE z.2) b := by
  unfold vS
  simp only [stepX, stepZ, vE_mul, vE_add, vE_sub, vE_d]
  rfl
theorem vS_step (l : List Int) (u : El) (j : Nat) : vS (ladS l u (j + 1)) = stepN (vE u) (tbit l (447 - j)) (vS (ladS l u j)) := by
  have e : ladS l u (j + 1) = ⟨stepX (swE (bI (tbit l (447 - j) != (ladS l u j).b)) (ladS l u j).x) (swE (bI (tbit l (447 - j) != (ladS l u j).b)) (ladS l u j).z), stepZ u (swE (bI (tbit l (447 - j) != (ladS l u j).b)) (ladS l u j).x) (swE (bI (tbit l (447 - j) != (ladS l u j).b)) (ladS l u j).z), tbit l (447 - j)⟩ := rfl
  rw [e, vS_core]
  generalize ladS l u j = s
  generalize tbit l (447 - j) = b
  unfold stepN
  show _ = match b != s.b with
    | true => coreN (vE u) (vE s.x.2) (vE s.x.1) (vE s.z.2) (vE s.z.1) b
    | false => coreN (vE u) (vE s.x.1) (vE s.x.2) (vE s.z.1) (vE s.z.2) b
  cases b != s.b
  · rw [swE_zero, swE_zero]
  · rw [swE_one, swE_one]
theorem vS_run (l : List Int) (u : El) : ∀ n j, vS (ladS l u (j + n)) = runN l (vE u) n j (vS (ladS l u j))
  | 0, j => rfl
  | n + 1, j => by
    rw [runN, ← vS_step, ← vS_run l u n (j + 1), show j + 1 + n = j + (n + 1) by omega]
def beginN (u : Nat) : NS := ⟨1, u, 0, 1, false⟩
/-- The number that is tried. -/
def cL : List Int := [8, 0, 0, 0, 0, 0, 0, 0, 0, 0, 0, 0, 0, 0, 0, 0, 0, 0, 0, 0, 0, 0, 0, 0, 0, 0, 0, 0, 0, 0, 0, 0, 0, 0, 0, 0, 0, 0, 0, 0, 0, 0, 0, 0, 0, 0, 0, 0, 0, 0, 0, 0, 0, 0, 0, 128]
theorem cL_eq : clampL kL = cL := by kernel_rfl
theorem run_ne : (runN cL 5 448 0 (beginN 5)).x0 ≠ 0 ∧ (runN cL 5 448 0 (beginN 5)).z0 ≠ 0 ∧ (runN cL 5 448 0 (beginN 5)).b = false := by decide +kernel
theorem vE_u : vE (ofE uL) = 5 := by kernel_rfl
theorem begin_eq : vS (ladS cL (ofE uL) 0) = beginN 5 := by
  show NS.mk (vE E1') (vE (ofE uL)) (vE E0) (vE E1') false = _
  rw [vE_u]
  have h1 : vE E1' = 1 := by kernel_rfl
  have h0 : vE E0 = 0 := by kernel_rfl
  rw [h1, h0]; rfl
theorem awake_ne : isZ (ladE (clampL kL) (ofE uL)) = false := by
  rw [cL_eq]
  have h := vS_run cL (ofE uL) 448 0
  rw [begin_eq, vE_u, Nat.zero_add] at h
  obtain ⟨h1, h2, h3⟩ := run_ne
  rw [← h] at h1 h2 h3
  cases hz : isZ (ladE cL (ofE uL)) with
  | false => rfl
  | true =>
    refine absurd ((isZ_iff _).1 hz) ?_
    show fv (endS (ladS cL (ofE uL) 448)) ≠ 0
    generalize ladS cL (ofE uL) 448 = s at h1 h2 h3
    have hb : s.b = false := h3
    have hx : fv s.x.1 ≠ 0 := fun e => h1 (congrArg Fin.val e)
    have hzz : fv s.z.1 ≠ 0 := fun e => h2 (congrArg Fin.val e)
    unfold endS
    rw [fv_mul, fv_inv, hb, show (false != false) = false from rfl, swE_zero, swE_zero]
    exact Cv.mul_ne hx (Cv.inv_ne hzz)

/-! ### TopCurves, but for the row -/
theorem curves_ob {l k : List Int} (n : Int) (hk : Bytes256 k) (hk56 : k.length = 56) :
    isZ (subE (ladE (clampL k) (uP (madeP l n))) (uP (mulP (clampL k) (madeP l n)))) = true ∧ fv (ladE (clampL k) (ofE (bytesE (uP (madeP l n))))) = fv (ladE (clampL k) (uP (madeP l n))) := by
  obtain ⟨A, hA⟩ := madeP_tells l n
  have h4 := clamp_four hk hk56
  have hu := hA.u
  have h1 := lad_tells h4 hu
  have h2 := lad_tells h4 (u := ofE (bytesE (uP (madeP l n)))) (A := A) (by rw [fv_of_bytes]; exact hu)
  have hq := (mul_tells (l := clampL k) hA).u
  refine ⟨?_, by rw [h1, h2]⟩
  rw [isZ_iff, fv_sub, h1, hq]
  generalize (Cv.smul okd (nb (clampL k) 448) A).y * _ * _ = a
  grind
theorem curves_plain {l k : List Int} (hl57 : l.length = 57) (hl : Bytes256 l) (n : Int) (hk : Bytes256 k) (hk56 : k.length = 56) : Plain Tryz.prog 3 [spot l n, .g (.agg [.r .u8 k])] (B1 true) := by
  obtain ⟨h1, h2⟩ := curves_ob (l := l) n hk hk56
  have hcb := clampL_256 hk
  have hcl : (clampL k).length = 56 := by rw [clampL_len]; exact hk56
  have e := l57_of hl57
  have hmet : ∀ b, isZ (ladE (clampL k) (uP (madeP l n))) = b → Met (ob3 madeP clampL mulP uP ladE l n k b) := fun b hb p hp => by
    simp only [ob3, List.mem_cons, List.not_mem_nil, or_false] at hp
    rcases hp with rfl | rfl | rfl | rfl | rfl | rfl | rfl | rfl | rfl | rfl | rfl | rfl | rfl
    · rw [hb]
    · exact h1
    · exact hk
    · exact bytesE_256 _
    · rw [isZ_congr h2]; exact hb
    · exact hk56
    · exact bytesE_len _
    · exact hcb
    · exact hcl
    · exact hcb
    · exact hcl
    · exact hk56
    · exact hl
  cases hz : isZ (ladE (clampL k) (uP (madeP l n))) with
  | true =>
    rw [e]
    rw [e] at hmet hz
    exact plain_run hm (sp3_ok awake_ne e9z_ok) fun3 _ 100 (run3z madeP clampL mulP uP ladE _ n k) (hmet true hz) (by kernel_rfl)
  | false =>
    have h3 : Met (ob3' madeP clampL uP ladE l n k) := fun p hp => by
      rcases List.mem_cons.1 hp with rfl | hp
      · exact bytesE_congr h2
      · rcases List.mem_cons.1 hp with rfl | hp
        · exact bytesE_len _
        · rw [List.mem_singleton.1 hp]; exact bytesE_len _
    rw [e]
    rw [e] at hmet hz h3
    exact plain_run hm (sp3_ok awake_ne e9t_ok) fun3 _ 100 (run3 madeP clampL mulP uP ladE _ n k) (fun p hp => by
      rcases List.mem_append.1 hp with hp | hp
      · exact h3 p hp
      · exact hmet false hz p hp) (by kernel_rfl)
end Go.Proofs.YtkiaodihfofbnaaGreatDoor.X
