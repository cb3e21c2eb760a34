/- X448 of a secret number and a point's u is the u of that number times the point (the law TopCurves): part 17 of 22 of its proof: the field, points as three numbers. No condition. -/
import Derived.Test.YtkiaodihfofbnaaGreatDoorM14
import Derived.Test.YtkiaodihfofbnaaGreatDoorM15
set_option linter.unusedVariables false
set_option linter.unusedSimpArgs false
namespace Go.Proofs.YtkiaodihfofbnaaGreatDoor.Cv
open Go.Proofs.YtkiaodihfofbnaaGreatDoor.Q
theorem fd_of {p : Nat} [NeZero p] (hp : Pr p) (h3 : 2 < p) : Fd p where
  inv_mul a ha := by
    have hv : ¬ p ∣ a.val := by
      intro h
      exact ha (Fin.ext ((Nat.eq_zero_of_dvd_of_lt h a.isLt).trans (by show 0 = 0 % p; rw [Nat.zero_mod])))
    have hf := Pr.fermat hp a.val hv
    apply Fin.ext
    rw [Fin.val_mul]
    show a.val * (a.val ^ (p - 2) % p) % p = 1 % p
    rw [Nat.mul_mod_mod, ← Nat.pow_succ', show (p - 2).succ = p - 1 by omega, hf, Nat.mod_eq_of_lt (by omega)]
  inv_zero := by
    apply Fin.ext
    show ((0 : Fin p).val ^ (p - 2)) % p = 0 % p
    have e : (0 : Fin p).val = 0 := by show 0 % p = 0; rw [Nat.zero_mod]
    rw [e, Nat.zero_pow (by omega)]
  zero_ne_one := by
    intro h
    have h1 := congrArg Fin.val h
    have e1 : ((1 : Fin p)).val = 1 % p := rfl
    have e0 : ((0 : Fin p)).val = 0 := by show 0 % p = 0; exact Nat.zero_mod p
    rw [e1, e0, Nat.mod_eq_of_lt (by omega)] at h1
    omega
theorem nonsq_of {p : Nat} (hp : Pr p) {D e : Nat} (he : 2 * e = p - 1) (h : D ^ e % p ≠ 1) (z : Nat) : z * z % p = D % p → D % p = 0 := by
  intro hz
  by_cases hv : p ∣ z
  · rw [← hz]
    exact Nat.mod_eq_zero_of_dvd (Nat.dvd_trans hv (Nat.dvd_mul_right z z))
  · refine absurd ?_ h
    have hf := Pr.fermat hp z hv
    rw [Nat.pow_mod, ← hz, ← Nat.pow_mod, ← Nat.pow_two, ← Nat.pow_mul, he]
    exact hf
def P : Nat := 726838724295606890549323807888004534353641360687318060281490199180612328166730772686396383698676545930088884461843637361053498018365439
theorem P_eq : P = 2 ^ 448 - 2 ^ 224 - 1 := by decide +kernel
theorem P_pr : Pr P := pr_726838724295606890549323807888004534353641360687318060281490199180612328166730772686396383698676545930088884461843637361053498018365439
theorem P_2 : 2 < P := by decide +kernel
instance instNz : NeZero P := ⟨by have := P_2; omega⟩
instance instFd : Fd P := fd_of P_pr P_2
def D : Nat := P - 39081
theorem D_lt : D < P := by have := P_2; unfold D; omega
def dd : Fin P := ⟨D, D_lt⟩
theorem D_pow : pw P 512 D ((P - 1) / 2) 1 % P = P - 1 := by decide +kernel
theorem D_0 : D % P ≠ 0 := by decide +kernel
theorem dd_nonsq (z : Fin P) : z * z ≠ dd := by
  intro h
  have hlt : (P - 1) / 2 < 2 ^ 512 := by decide +kernel
  have e := pw_eq P 512 D ((P - 1) / 2) 1 hlt
  rw [Nat.one_mul, D_pow] at e
  have h1 : z.val * z.val % P = D % P := by
    have := congrArg Fin.val h
    rw [Fin.val_mul] at this
    rw [this, Nat.mod_eq_of_lt D_lt]; rfl
  refine D_0 (nonsq_of P_pr (e := (P - 1) / 2) (by decide +kernel) ?_ z.val h1)
  rw [← e]
  have := P_2
  omega
theorem okd : Ok dd := ⟨by
  intro h
  have h2 := congrArg Fin.val h
  have e0 : ((0 : Fin P)).val = 0 := by show 0 % P = 0; exact Nat.zero_mod P
  have e : ((2 : Fin P)).val = 2 := by show 2 % P = 2; exact Nat.mod_eq_of_lt P_2
  rw [e0, e] at h2
  omega, dd_nonsq⟩
end Go.Proofs.YtkiaodihfofbnaaGreatDoor.Cv
namespace Go.Proofs.YtkiaodihfofbnaaGreatDoor.Cv
section
variable {M : Nat} [NeZero M] [Fd M] {d : Fin M}
/-- x, y and z tell a point. -/
def Tell (x y z : Fin M) (A : Pt d) : Prop := z ≠ 0 ∧ x = A.x * z ∧ y = A.y * z
theorem tell_add (hd : Ok d) {A B : Pt d} {x1 y1 z1 x2 y2 z2 : Fin M} (h1 : Tell x1 y1 z1 A) (h2 : Tell x2 y2 z2 B) :
    Tell (z1 * z2 * (z1 * z2 * (z1 * z2) - x1 * x2 * (y1 * y2) * d) * ((x1 + y1) * (x2 + y2) - x1 * x2 - y1 * y2))
      (z1 * z2 * (z1 * z2 * (z1 * z2) + x1 * x2 * (y1 * y2) * d) * (y1 * y2 - x1 * x2))
      ((z1 * z2 * (z1 * z2) - x1 * x2 * (y1 * y2) * d) * (z1 * z2 * (z1 * z2) + x1 * x2 * (y1 * y2) * d)) (add hd A B) := by
  obtain ⟨n1, rfl, rfl⟩ := h1
  obtain ⟨n2, rfl, rfl⟩ := h2
  have p := hd.plus A B
  have m := hd.minus A B
  have i1 := inv_mul p
  have i2 := inv_mul m
  have nz := mul_ne n1 n2
  have e1 : z1 * z2 * (z1 * z2) - A.x * z1 * (B.x * z2) * (A.y * z1 * (B.y * z2)) * d = z1 * z2 * (z1 * z2) * (1 - d * A.x * B.x * A.y * B.y) := by grind
  have e2 : z1 * z2 * (z1 * z2) + A.x * z1 * (B.x * z2) * (A.y * z1 * (B.y * z2)) * d = z1 * z2 * (z1 * z2) * (1 + d * A.x * B.x * A.y * B.y) := by grind
  have e3 : (A.x * z1 + A.y * z1) * (B.x * z2 + B.y * z2) - A.x * z1 * (B.x * z2) - A.y * z1 * (B.y * z2) = z1 * z2 * (A.x * B.y + B.x * A.y) := by grind
  have e4 : A.y * z1 * (B.y * z2) - A.x * z1 * (B.x * z2) = z1 * z2 * (A.y * B.y - A.x * B.x) := by grind
  rw [e1, e2, e3, e4]
  refine ⟨mul_ne (mul_ne (mul_ne nz nz) m) (mul_ne (mul_ne nz nz) p), ?_, ?_⟩
  · show _ = (A.x * B.y + B.x * A.y) * (1 + d * A.x * B.x * A.y * B.y)⁻¹ * _
    generalize (1 + d * A.x * B.x * A.y * B.y)⁻¹ = r at *
    generalize 1 + d * A.x * B.x * A.y * B.y = s at *
    generalize 1 - d * A.x * B.x * A.y * B.y = t at *
    generalize z1 * z2 = z at *
    generalize A.x * B.y + B.x * A.y = u at *
    clear e1 e2 e3 e4 i2
    grind
  · show _ = (A.y * B.y - A.x * B.x) * (1 - d * A.x * B.x * A.y * B.y)⁻¹ * _
    generalize (1 - d * A.x * B.x * A.y * B.y)⁻¹ = r at *
    generalize 1 + d * A.x * B.x * A.y * B.y = s at *
    generalize 1 - d * A.x * B.x * A.y * B.y = t at *
    generalize z1 * z2 = z at *
    generalize A.y * B.y - A.x * B.x = u at *
    clear e1 e2 e3 e4 i1
    grind
theorem tell_dbl (hd : Ok d) {A : Pt d} {x y z two : Fin M} (h2 : two = 2) (h : Tell x y z A) :
    Tell (((x + y) * (x + y) - (x * x + y * y)) * (x * x + y * y - z * z * two)) ((x * x + y * y) * (x * x - y * y)) ((x * x + y * y) * (x * x + y * y - z * z * two)) (add hd A A) := by
  subst h2
  obtain ⟨n1, rfl, rfl⟩ := h
  have p := hd.plus A A
  have m := hd.minus A A
  have i1 := inv_mul p
  have i2 := inv_mul m
  have on := A.on
  unfold On at on
  have nz := mul_ne n1 n1
  have e1 : A.x * z * (A.x * z) + A.y * z * (A.y * z) = z * z * (1 + d * A.x * A.x * A.y * A.y) := by grind
  have e2 : z * z * (1 + d * A.x * A.x * A.y * A.y) - z * z * 2 = -(z * z * (1 - d * A.x * A.x * A.y * A.y)) := by grind
  have e3 : (A.x * z + A.y * z) * (A.x * z + A.y * z) - z * z * (1 + d * A.x * A.x * A.y * A.y) = z * z * (A.x * A.y + A.x * A.y) := by grind
  have e4 : A.x * z * (A.x * z) - A.y * z * (A.y * z) = -(z * z * (A.y * A.y - A.x * A.x)) := by grind
  rw [e1, e2, e3, e4]
  have neg_ne : ∀ a : Fin M, a ≠ 0 → -a ≠ 0 := fun a ha h => ha (by grind)
  refine ⟨mul_ne (mul_ne nz p) (neg_ne _ (mul_ne nz m)), ?_, ?_⟩
  · show _ = (A.x * A.y + A.x * A.y) * (1 + d * A.x * A.x * A.y * A.y)⁻¹ * _
    clear on e1 e2 e3 e4 i2
    generalize (1 + d * A.x * A.x * A.y * A.y)⁻¹ = r at *
    generalize 1 + d * A.x * A.x * A.y * A.y = s at *
    generalize 1 - d * A.x * A.x * A.y * A.y = t at *
    generalize A.x * A.y + A.x * A.y = u at *
    grind
  · show _ = (A.y * A.y - A.x * A.x) * (1 - d * A.x * A.x * A.y * A.y)⁻¹ * _
    clear on e1 e2 e3 e4 i1
    generalize (1 - d * A.x * A.x * A.y * A.y)⁻¹ = r at *
    generalize 1 + d * A.x * A.x * A.y * A.y = s at *
    generalize 1 - d * A.x * A.x * A.y * A.y = t at *
    generalize A.y * A.y - A.x * A.x = u at *
    grind
theorem tell_neg {M : Nat} [NeZero M] {d : Fin M} {A : Pt d} {x y z : Fin M} (h : Tell x y z A) : Tell (0 - x) y z (neg A) := by
  obtain ⟨n1, rfl, rfl⟩ := h
  refine ⟨n1, ?_, rfl⟩
  show _ = -A.x * z
  grind
/-- u of a point. -/
theorem tell_u {A : Pt d} {x y z : Fin M} (h : Tell x y z A) : y * z⁻¹ * (y * z⁻¹) * (x * z⁻¹ * (x * z⁻¹))⁻¹ = A.y * A.y * (A.x * A.x)⁻¹ := by
  obtain ⟨n1, rfl, rfl⟩ := h
  have i := inv_mul n1
  have e1 : A.y * z * z⁻¹ = A.y := by grind
  have e2 : A.x * z * z⁻¹ = A.x := by grind
  rw [e1, e2]
end
end Go.Proofs.YtkiaodihfofbnaaGreatDoor.Cv
