/- X448 of a secret number and a point's u is the u of that number times the point (the law TopCurves): part 16 of 22 of its proof: the curve's group, the ladder. No condition. -/
import Derived.Test.YtkiaodihfofbnaaGreatDoorM14
set_option linter.unusedVariables false
set_option linter.unusedSimpArgs false
namespace Go.Proofs.YtkiaodihfofbnaaGreatDoor.Cv
/-- The inverse, and nought for nought. -/
def iv {p : Nat} [NeZero p] (a : Fin p) : Fin p := Fin.ofNat p (a.val ^ (p - 2))
instance instIv {p : Nat} [NeZero p] : Inv (Fin p) := ⟨iv⟩
/-- What a field is. -/
class Fd (M : Nat) [NeZero M] : Prop where
  inv_mul : ∀ a : Fin M, a ≠ 0 → a * a⁻¹ = 1
  inv_zero : (0 : Fin M)⁻¹ = 0
  zero_ne_one : (0 : Fin M) ≠ 1
section
variable {M : Nat} [NeZero M] [Fd M]
theorem inv_mul {a : Fin M} (h : a ≠ 0) : a * a⁻¹ = 1 := Fd.inv_mul _ h
theorem mul_ne {a b : Fin M} (ha : a ≠ 0) (hb : b ≠ 0) : a * b ≠ 0 := by
  intro h
  have h1 := inv_mul ha
  have : b = 0 := by grind
  exact hb this
def On (d x y : Fin M) : Prop := x * x + y * y = 1 + d * (x * x) * (y * y)
/-- What the curve needs. -/
structure Ok (d : Fin M) : Prop where
  two : (2 : Fin M) ≠ 0
  nonsq : ∀ z : Fin M, z * z ≠ d
variable {d : Fin M}
theorem Ok.ne (hd : Ok d) {x1 y1 x2 y2 e : Fin M} (h1 : On d x1 y1) (h2 : On d x2 y2) (he : e * e = 1) : d * x1 * x2 * y1 * y2 ≠ e := by
  intro hm
  have ne0 : (1 : Fin M) ≠ 0 := fun h => Fd.zero_ne_one (M := M) h.symm
  have hxy : x1 * y1 ≠ 0 := by
    intro h
    have : e = 0 := by grind
    grind
  have key : ∀ s : Fin M, (x1 + e * y1) * (x1 + e * y1) = d * ((x1 * y1) * (x1 * y1)) * ((x2 + y2) * (x2 + y2)) := by
    intro _
    unfold On at h1 h2
    grind
  have key2 : (x1 - e * y1) * (x1 - e * y1) = d * ((x1 * y1) * (x1 * y1)) * ((x2 - y2) * (x2 - y2)) := by
    unfold On at h1 h2
    grind
  have sq : ∀ a b : Fin M, b ≠ 0 → a * a = d * (b * b) → False := by
    intro a b hb h
    have hi := inv_mul hb
    exact hd.nonsq (a * b⁻¹) (by grind)
  by_cases hs : x2 + y2 = 0
  · by_cases ht : x2 - y2 = 0
    · have h4 : 2 * x2 = 0 := by grind
      have h5 : x2 = 0 := by
        have := inv_mul hd.two
        grind
      have : e = 0 := by grind
      grind
    · exact sq (x1 - e * y1) ((x1 * y1) * (x2 - y2)) (mul_ne hxy ht) (by grind)
  · exact sq (x1 + e * y1) ((x1 * y1) * (x2 + y2)) (mul_ne hxy hs) (by have := key 0; grind)
end
/-- A point. -/
structure Pt {M : Nat} [NeZero M] (d : Fin M) where
  x : Fin M
  y : Fin M
  on : On d x y
section
variable {M : Nat} [NeZero M] [Fd M] {d : Fin M}
theorem Pt.ext' {M : Nat} [NeZero M] {d : Fin M} {P Q : Pt d} (hx : P.x = Q.x) (hy : P.y = Q.y) : P = Q := by
  cases P; cases Q
  cases hx; cases hy
  rfl
theorem Ok.plus (hd : Ok d) (P Q : Pt d) : 1 + d * P.x * Q.x * P.y * Q.y ≠ 0 := by
  have h := hd.ne P.on Q.on (e := -1) (by grind)
  intro h2
  exact h (by grind)
theorem Ok.minus (hd : Ok d) (P Q : Pt d) : 1 - d * P.x * Q.x * P.y * Q.y ≠ 0 := by
  have h := hd.ne P.on Q.on (e := 1) (by grind)
  intro h2
  exact h (by grind)
def sx (d x1 y1 x2 y2 : Fin M) : Fin M := (x1 * y2 + x2 * y1) * (1 + d * x1 * x2 * y1 * y2)⁻¹
def sy (d x1 y1 x2 y2 : Fin M) : Fin M := (y1 * y2 - x1 * x2) * (1 - d * x1 * x2 * y1 * y2)⁻¹
def add (hd : Ok d) (P Q : Pt d) : Pt d := ⟨sx d P.x P.y Q.x Q.y, sy d P.x P.y Q.x Q.y, by
  have h1 := P.on
  have h2 := Q.on
  have i1 := inv_mul (hd.plus P Q)
  have i2 := inv_mul (hd.minus P Q)
  unfold On sx sy at *
  generalize (1 + d * P.x * Q.x * P.y * Q.y)⁻¹ = a at *
  generalize (1 - d * P.x * Q.x * P.y * Q.y)⁻¹ = b at *
  generalize P.x = x1 at *
  generalize P.y = y1 at *
  generalize Q.x = x2 at *
  generalize Q.y = y2 at *
  have id : (x1*y2+x2*y1)^2*(1-d*x1*x2*y1*y2)^2 + (y1*y2-x1*x2)^2*(1+d*x1*x2*y1*y2)^2 = (1+d*x1*x2*y1*y2)^2*(1-d*x1*x2*y1*y2)^2 + d*(x1*y2+x2*y1)^2*(y1*y2-x1*x2)^2 := by grind
  generalize x1*y2+x2*y1 = u at *
  generalize y1*y2-x1*x2 = v at *
  generalize 1+d*x1*x2*y1*y2 = p at *
  generalize 1-d*x1*x2*y1*y2 = q at *
  clear h1 h2
  have e1 : u * a * (u * a) + v * b * (v * b) = (u^2*q^2 + v^2*p^2) * (a * a * (b * b)) := by grind
  have e2 : 1 + d * (u * a * (u * a)) * (v * b * (v * b)) = (p^2*q^2 + d*u^2*v^2) * (a * a * (b * b)) := by grind
  rw [e1, e2, id]⟩

theorem add_comm (hd : Ok d) (P Q : Pt d) : add hd P Q = add hd Q P := by
  refine Pt.ext' ?_ ?_
  · show sx d P.x P.y Q.x Q.y = sx d Q.x Q.y P.x P.y
    unfold sx
    rw [show 1 + d * P.x * Q.x * P.y * Q.y = 1 + d * Q.x * P.x * Q.y * P.y by grind, show P.x * Q.y + Q.x * P.y = Q.x * P.y + P.x * Q.y by grind]
  · show sy d P.x P.y Q.x Q.y = sy d Q.x Q.y P.x P.y
    unfold sy
    rw [show 1 - d * P.x * Q.x * P.y * Q.y = 1 - d * Q.x * P.x * Q.y * P.y by grind, show P.y * Q.y - P.x * Q.x = Q.y * P.y - Q.x * P.x by grind]
def zero : Pt d := ⟨0, 1, by unfold On; grind⟩
def neg (P : Pt d) : Pt d := ⟨-P.x, P.y, by have := P.on; unfold On at *; grind⟩
theorem inv_one : (1 : Fin M)⁻¹ = 1 := by
  have := inv_mul (a := (1 : Fin M)) (fun h => Fd.zero_ne_one (M := M) h.symm)
  grind
theorem zero_add (hd : Ok d) (P : Pt d) : add hd zero P = P := by
  refine Pt.ext' ?_ ?_
  · show sx d 0 1 P.x P.y = P.x
    unfold sx
    rw [show 1 + d * 0 * P.x * 1 * P.y = 1 by grind, inv_one]; grind
  · show sy d 0 1 P.x P.y = P.y
    unfold sy
    rw [show 1 - d * 0 * P.x * 1 * P.y = 1 by grind, inv_one]; grind
theorem add_neg (hd : Ok d) (P : Pt d) : add hd P (neg P) = zero := by
  refine Pt.ext' ?_ ?_
  · show sx d P.x P.y (-P.x) P.y = 0
    unfold sx
    grind
  · show sy d P.x P.y (-P.x) P.y = 1
    have h := inv_mul (hd.minus P (neg P))
    have on := P.on
    unfold sy
    show (P.y * P.y - P.x * -P.x) * (1 - d * P.x * (-P.x) * P.y * P.y)⁻¹ = 1
    have h : (1 - d * P.x * (-P.x) * P.y * P.y) * (1 - d * P.x * (-P.x) * P.y * P.y)⁻¹ = 1 := h
    rw [show P.y * P.y - P.x * -P.x = 1 - d * P.x * (-P.x) * P.y * P.y by unfold On at on; grind]
    exact h
/-- Two fractions. -/
theorem frac_eq {a b p q : Fin M} (hp : p ≠ 0) (hq : q ≠ 0) (h : a * q = b * p) : a * p⁻¹ = b * q⁻¹ := by
  have i1 := inv_mul hp
  have i2 := inv_mul hq
  generalize p⁻¹ = r at *
  generalize q⁻¹ = s at *
  have : a * r = a * q * s * r := by grind
  have : b * s = b * p * r * s := by grind
  grind
/-- x of a sum of a sum, as one fraction. -/
theorem sx_frac {n m p q x3 y3 : Fin M} (hp : p ≠ 0) (hq : q ≠ 0) (hD : 1 + d * (n * p⁻¹) * x3 * (m * q⁻¹) * y3 ≠ 0) :
    p * q + d * n * m * x3 * y3 ≠ 0 ∧ sx d (n * p⁻¹) (m * q⁻¹) x3 y3 = (n * q * y3 + x3 * m * p) * (p * q + d * n * m * x3 * y3)⁻¹ := by
  have i1 := inv_mul hp
  have i2 := inv_mul hq
  unfold sx
  generalize p⁻¹ = r at *
  generalize q⁻¹ = s at *
  have e : p * q + d * n * m * x3 * y3 = (p * q) * (1 + d * (n * r) * x3 * (m * s) * y3) := by grind
  have hne : p * q + d * n * m * x3 * y3 ≠ 0 := by rw [e]; exact mul_ne (mul_ne hp hq) hD
  exact ⟨hne, frac_eq hD hne (by rw [e]; grind)⟩
theorem sy_frac {n m p q x3 y3 : Fin M} (hp : p ≠ 0) (hq : q ≠ 0) (hD : 1 - d * (n * p⁻¹) * x3 * (m * q⁻¹) * y3 ≠ 0) :
    p * q - d * n * m * x3 * y3 ≠ 0 ∧ sy d (n * p⁻¹) (m * q⁻¹) x3 y3 = (m * p * y3 - n * q * x3) * (p * q - d * n * m * x3 * y3)⁻¹ := by
  have i1 := inv_mul hp
  have i2 := inv_mul hq
  unfold sy
  generalize p⁻¹ = r at *
  generalize q⁻¹ = s at *
  have e : p * q - d * n * m * x3 * y3 = (p * q) * (1 - d * (n * r) * x3 * (m * s) * y3) := by grind
  have hne : p * q - d * n * m * x3 * y3 ≠ 0 := by rw [e]; exact mul_ne (mul_ne hp hq) hD
  exact ⟨hne, frac_eq hD hne (by rw [e]; grind)⟩
theorem assoc_x {M : Nat} [NeZero M] {d : Fin M} (x1 y1 x2 y2 x3 y3 : Fin M) (h1 : On d x1 y1) (h2 : On d x2 y2) (h3 : On d x3 y3) :
    ((x1*y2+x2*y1)*(1-d*x1*x2*y1*y2)*y3 + x3*(y1*y2-x1*x2)*(1+d*x1*x2*y1*y2)) * ((1+d*x2*x3*y2*y3)*(1-d*x2*x3*y2*y3) + d*(x2*y3+x3*y2)*(y2*y3-x2*x3)*x1*y1)
    = ((x2*y3+x3*y2)*(1-d*x2*x3*y2*y3)*y1 + x1*(y2*y3-x2*x3)*(1+d*x2*x3*y2*y3)) * ((1+d*x1*x2*y1*y2)*(1-d*x1*x2*y1*y2) + d*(x1*y2+x2*y1)*(y1*y2-x1*x2)*x3*y3) := by
  unfold On at *
  grind (ringSteps := 100000)
theorem assoc_y {M : Nat} [NeZero M] {d : Fin M} (x1 y1 x2 y2 x3 y3 : Fin M) (h1 : On d x1 y1) (h2 : On d x2 y2) (h3 : On d x3 y3) :
    ((y1*y2-x1*x2)*(1+d*x1*x2*y1*y2)*y3 - (x1*y2+x2*y1)*(1-d*x1*x2*y1*y2)*x3) * ((1+d*x2*x3*y2*y3)*(1-d*x2*x3*y2*y3) - d*(x2*y3+x3*y2)*(y2*y3-x2*x3)*x1*y1)
    = ((y2*y3-x2*x3)*(1+d*x2*x3*y2*y3)*y1 - (x2*y3+x3*y2)*(1-d*x2*x3*y2*y3)*x1) * ((1+d*x1*x2*y1*y2)*(1-d*x1*x2*y1*y2) - d*(x1*y2+x2*y1)*(y1*y2-x1*x2)*x3*y3) := by
  unfold On at *
  grind (ringSteps := 100000)
theorem add_assoc (hd : Ok d) (P Q R : Pt d) : add hd (add hd P Q) R = add hd P (add hd Q R) := by
  rw [add_comm hd P (add hd Q R)]
  refine Pt.ext' ?_ ?_
  · obtain ⟨n1, e1⟩ := sx_frac (d := d) (x3 := R.x) (y3 := R.y) (hd.plus P Q) (hd.minus P Q) (hd.plus (add hd P Q) R)
    obtain ⟨n2, e2⟩ := sx_frac (d := d) (x3 := P.x) (y3 := P.y) (hd.plus Q R) (hd.minus Q R) (hd.plus (add hd Q R) P)
    refine e1.trans (Eq.trans ?_ e2.symm)
    exact frac_eq n1 n2 (assoc_x P.x P.y Q.x Q.y R.x R.y P.on Q.on R.on)
  · obtain ⟨n1, e1⟩ := sy_frac (d := d) (x3 := R.x) (y3 := R.y) (hd.plus P Q) (hd.minus P Q) (hd.minus (add hd P Q) R)
    obtain ⟨n2, e2⟩ := sy_frac (d := d) (x3 := P.x) (y3 := P.y) (hd.plus Q R) (hd.minus Q R) (hd.minus (add hd Q R) P)
    refine e1.trans (Eq.trans ?_ e2.symm)
    exact frac_eq n1 n2 (assoc_y P.x P.y Q.x Q.y R.x R.y P.on Q.on R.on)
end
end Go.Proofs.YtkiaodihfofbnaaGreatDoor.Cv
namespace Go.Proofs.YtkiaodihfofbnaaGreatDoor.Cv
section
variable {M : Nat} [NeZero M] [Fd M] {d : Fin M}
def smul (hd : Ok d) : Nat → Pt d → Pt d
  | 0, _ => zero
  | n + 1, P => add hd (smul hd n P) P
theorem smul_add (hd : Ok d) (P : Pt d) (m : Nat) : ∀ n, smul hd (m + n) P = add hd (smul hd m P) (smul hd n P)
  | 0 => by
    show smul hd m P = add hd (smul hd m P) zero
    rw [add_comm, zero_add]
  | n + 1 => by
    show add hd (smul hd (m + n) P) P = add hd (smul hd m P) (add hd (smul hd n P) P)
    rw [smul_add hd P m n, add_assoc]
theorem smul_mul (hd : Ok d) (P : Pt d) (m : Nat) : ∀ n, smul hd (m * n) P = smul hd n (smul hd m P)
  | 0 => rfl
  | n + 1 => by
    show smul hd (m * n + m) P = add hd (smul hd n (smul hd m P)) (smul hd m P)
    rw [smul_add, smul_mul hd P m n]
theorem add_cancel (hd : Ok d) (A P : Pt d) : add hd (add hd A P) (neg A) = P := by
  rw [add_comm hd A P, add_assoc, add_neg, add_comm, zero_add]
/-- X : Z is a point's u. -/
def Rel (X Z : Fin M) (Q : Pt d) : Prop := ∃ l : Fin M, l ≠ 0 ∧ X = l * (Q.y * Q.y) ∧ Z = l * (Q.x * Q.x)
theorem inv_ne {a : Fin M} (h : a ≠ 0) : a⁻¹ ≠ 0 := by
  intro h2
  have := inv_mul h
  have ne0 : (1 : Fin M) ≠ 0 := fun h => Fd.zero_ne_one (M := M) h.symm
  exact ne0 (by grind)
theorem rel_zero : Rel (1 : Fin M) 0 (zero : Pt d) := ⟨1, fun h => Fd.zero_ne_one (M := M) h.symm, by show (1 : Fin M) = 1 * (1 * 1); grind, by show (0 : Fin M) = 1 * (0 * 0); grind⟩
theorem rel_one (P : Pt d) (hx : P.x ≠ 0) {u : Fin M} (hu : u * (P.x * P.x) = P.y * P.y) : Rel u 1 P := by
  have h2 := mul_ne hx hx
  have i := inv_mul h2
  exact ⟨(P.x * P.x)⁻¹, inv_ne h2, by grind, by grind⟩
theorem rel_double (hd : Ok d) (Q : Pt d) {X Z c : Fin M} (hc : c = -d) (h : Rel X Z Q) :
    Rel ((X + Z) * (X + Z) * ((X - Z) * (X - Z))) (((X + Z) * (X + Z) - (X - Z) * (X - Z)) * ((X + Z) * (X + Z) + ((X + Z) * (X + Z) - (X - Z) * (X - Z)) * c)) (add hd Q Q) := by
  obtain ⟨l, hl, rfl, rfl⟩ := h
  subst hc
  have p := hd.plus Q Q
  have m := hd.minus Q Q
  have i1 := inv_mul p
  have i2 := inv_mul m
  have on := Q.on
  refine ⟨l * l * (l * l) * ((1 + d * Q.x * Q.x * Q.y * Q.y) * (1 + d * Q.x * Q.x * Q.y * Q.y)) * ((1 - d * Q.x * Q.x * Q.y * Q.y) * (1 - d * Q.x * Q.x * Q.y * Q.y)), mul_ne (mul_ne (mul_ne (mul_ne hl hl) (mul_ne hl hl)) (mul_ne p p)) (mul_ne m m), ?_, ?_⟩
  · show _ = _ * (sy d Q.x Q.y Q.x Q.y * sy d Q.x Q.y Q.x Q.y)
    unfold sy
    unfold On at on
    generalize (1 - d * Q.x * Q.x * Q.y * Q.y)⁻¹ = b at *
    have e : ((1 - d * Q.x * Q.x * Q.y * Q.y) * b) * ((1 - d * Q.x * Q.x * Q.y * Q.y) * b) = 1 := by rw [i2]; grind
    have e2 : l * l * (l * l) * ((1 + d * Q.x * Q.x * Q.y * Q.y) * (1 + d * Q.x * Q.x * Q.y * Q.y)) * ((1 - d * Q.x * Q.x * Q.y * Q.y) * (1 - d * Q.x * Q.x * Q.y * Q.y)) * ((Q.y * Q.y - Q.x * Q.x) * b * ((Q.y * Q.y - Q.x * Q.x) * b))
      = l * l * (l * l) * ((1 + d * Q.x * Q.x * Q.y * Q.y) * (1 + d * Q.x * Q.x * Q.y * Q.y)) * ((Q.y * Q.y - Q.x * Q.x) * (Q.y * Q.y - Q.x * Q.x)) * (((1 - d * Q.x * Q.x * Q.y * Q.y) * b) * ((1 - d * Q.x * Q.x * Q.y * Q.y) * b)) := by grind
    rw [e2, e, show 1 + d * Q.x * Q.x * Q.y * Q.y = Q.x * Q.x + Q.y * Q.y by grind]
    grind
  · show _ = _ * (sx d Q.x Q.y Q.x Q.y * sx d Q.x Q.y Q.x Q.y)
    unfold sx
    unfold On at on
    generalize (1 + d * Q.x * Q.x * Q.y * Q.y)⁻¹ = b at *
    have e : ((1 + d * Q.x * Q.x * Q.y * Q.y) * b) * ((1 + d * Q.x * Q.x * Q.y * Q.y) * b) = 1 := by rw [i1]; grind
    have e2 : l * l * (l * l) * ((1 + d * Q.x * Q.x * Q.y * Q.y) * (1 + d * Q.x * Q.x * Q.y * Q.y)) * ((1 - d * Q.x * Q.x * Q.y * Q.y) * (1 - d * Q.x * Q.x * Q.y * Q.y)) * ((Q.x * Q.y + Q.x * Q.y) * b * ((Q.x * Q.y + Q.x * Q.y) * b))
      = l * l * (l * l) * ((1 - d * Q.x * Q.x * Q.y * Q.y) * (1 - d * Q.x * Q.x * Q.y * Q.y)) * ((Q.x * Q.y + Q.x * Q.y) * (Q.x * Q.y + Q.x * Q.y)) * (((1 + d * Q.x * Q.x * Q.y * Q.y) * b) * ((1 + d * Q.x * Q.x * Q.y * Q.y) * b)) := by grind
    rw [e2, e]
    have e3 : (1 - d * Q.x * Q.x * Q.y * Q.y) * (1 - d * Q.x * Q.x * Q.y * Q.y) = (Q.x * Q.x + Q.y * Q.y) * (Q.x * Q.x + Q.y * Q.y) - 4 * d * (Q.x * Q.x) * (Q.y * Q.y) := by grind
    rw [e3]
    grind
/-- The sum of A and A + P, by P's u. -/
theorem rel_diff (hd : Ok d) (A P : Pt d) {XA ZA XB ZB u : Fin M} (_hx : P.x ≠ 0) (hy : P.y ≠ 0) (hu : u * (P.x * P.x) = P.y * P.y) (hA : Rel XA ZA A) (hB : Rel XB ZB (add hd A P)) :
    Rel ((XA * XB - ZA * ZB) * (XA * XB - ZA * ZB)) (u * ((ZA * XB - XA * ZB) * (ZA * XB - XA * ZB))) (add hd A (add hd A P)) := by
  have hP := add_cancel hd A P
  generalize add hd A P = B at *
  obtain ⟨l, hl, rfl, rfl⟩ := hA
  obtain ⟨m, hm, rfl, rfl⟩ := hB
  have p := hd.plus A B
  have q := hd.minus A B
  have i1 := inv_mul p
  have i2 := inv_mul q
  have hpx : P.x = (B.x * A.y + (-A.x) * B.y) * (1 + d * B.x * (-A.x) * B.y * A.y)⁻¹ := by rw [← hP]; rfl
  have hpy : P.y = (B.y * A.y - B.x * (-A.x)) * (1 - d * B.x * (-A.x) * B.y * A.y)⁻¹ := by rw [← hP]; rfl
  rw [show 1 + d * B.x * (-A.x) * B.y * A.y = 1 - d * A.x * B.x * A.y * B.y by grind] at hpx
  rw [show 1 - d * B.x * (-A.x) * B.y * A.y = 1 + d * A.x * B.x * A.y * B.y by grind] at hpy
  have sxe : (add hd A B).x = (A.x * B.y + B.x * A.y) * (1 + d * A.x * B.x * A.y * B.y)⁻¹ := rfl
  have sye : (add hd A B).y = (A.y * B.y - A.x * B.x) * (1 - d * A.x * B.x * A.y * B.y)⁻¹ := rfl
  obtain ⟨Sx, hSx⟩ : ∃ s, s = (add hd A B).x := ⟨_, rfl⟩
  obtain ⟨Sy, hSy⟩ : ∃ s, s = (add hd A B).y := ⟨_, rfl⟩
  rw [← hSx] at sxe
  rw [← hSy] at sye
  generalize (1 + d * A.x * B.x * A.y * B.y) = D at *
  generalize (1 - d * A.x * B.x * A.y * B.y) = E at *
  have ex : (B.x * A.y * (B.x * A.y) - A.x * B.y * (A.x * B.y)) = D * E * (Sx * P.x) := by
    rw [sxe, hpx]; grind
  have ey : (A.y * B.y * (A.y * B.y) - A.x * B.x * (A.x * B.x)) = D * E * (Sy * P.y) := by
    rw [sye, hpy]; grind
  refine ⟨l * m * (l * m) * (D * E * (D * E)) * (P.y * P.y), mul_ne (mul_ne (mul_ne (mul_ne hl hm) (mul_ne hl hm)) (mul_ne (mul_ne p q) (mul_ne p q))) (mul_ne hy hy), ?_, ?_⟩
  · have e : l * (A.y * A.y) * (m * (B.y * B.y)) - l * (A.x * A.x) * (m * (B.x * B.x)) = l * m * (D * E * (Sy * P.y)) := by rw [← ey]; grind
    rw [e, ← hSy]; grind
  · have e : l * (A.x * A.x) * (m * (B.y * B.y)) - l * (A.y * A.y) * (m * (B.x * B.x)) = - (l * m * (D * E * (Sx * P.x))) := by rw [← ex]; grind
    rw [e, ← hu, ← hSx]; grind
end
section
variable {M : Nat} [NeZero M] [Fd M] {d : Fin M}
theorem rel_scale {X Z k : Fin M} {Q : Pt d} (hk : k ≠ 0) (h : Rel X Z Q) : Rel (k * X) (k * Z) Q := by
  obtain ⟨l, hl, rfl, rfl⟩ := h
  exact ⟨k * l, mul_ne hk hl, by grind, by grind⟩
/-- The state: by the last bit, m and m + 1 times P, or the other way round. -/
def St (hd : Ok d) (P : Pt d) (b : Bool) (m : Nat) (x0 z0 x1 z1 : Fin M) : Prop :=
  if b then Rel x0 z0 (smul hd (m + 1) P) ∧ Rel x1 z1 (smul hd m P) else Rel x0 z0 (smul hd m P) ∧ Rel x1 z1 (smul hd (m + 1) P)
theorem St_swap (hd : Ok d) {P : Pt d} {b : Bool} {m : Nat} {x0 z0 x1 z1 : Fin M} (h : St hd P b m x0 z0 x1 z1) : St hd P (!b) m x1 z1 x0 z0 := by
  cases b
  · exact ⟨h.2, h.1⟩
  · exact ⟨h.2, h.1⟩
theorem St_step (hd : Ok d) (P : Pt d) {u c : Fin M} (hc : c = -d) (hx : P.x ≠ 0) (hy : P.y ≠ 0) (hu : u * (P.x * P.x) = P.y * P.y) {b : Bool} {m : Nat} {x0 z0 x1 z1 : Fin M} (h : St hd P b m x0 z0 x1 z1) :
    St hd P b (2 * m + b.toNat)
      ((x0 + z0) * (x0 + z0) * ((x0 - z0) * (x0 - z0)))
      (((x0 + z0) * (x0 + z0) - (x0 - z0) * (x0 - z0)) * ((x0 + z0) * (x0 + z0) + ((x0 + z0) * (x0 + z0) - (x0 - z0) * (x0 - z0)) * c))
      (((x1 - z1) * (x0 + z0) + (x1 + z1) * (x0 - z0)) * ((x1 - z1) * (x0 + z0) + (x1 + z1) * (x0 - z0)))
      (u * (((x1 - z1) * (x0 + z0) - (x1 + z1) * (x0 - z0)) * ((x1 - z1) * (x0 + z0) - (x1 + z1) * (x0 - z0)))) := by
  have h4 : (4 : Fin M) ≠ 0 := by
    have := mul_ne hd.two hd.two
    intro h; exact this (by grind)
  have e2 : ∀ n, smul hd (2 * n) P = add hd (smul hd n P) (smul hd n P) := fun n => by rw [show 2 * n = n + n by omega, smul_add]
  have e3 : smul hd (2 * m + 1) P = add hd (smul hd m P) (add hd (smul hd m P) P) := by
    rw [show 2 * m + 1 = m + (m + 1) by omega, smul_add]; rfl
  cases b
  · obtain ⟨h0, h1⟩ : Rel x0 z0 (smul hd m P) ∧ Rel x1 z1 (smul hd (m + 1) P) := h
    refine (⟨?_, ?_⟩ : Rel _ _ (smul hd (2 * m) P) ∧ Rel _ _ (smul hd (2 * m + 1) P))
    · rw [e2]; exact rel_double hd _ hc h0
    · rw [e3]
      have r := rel_scale h4 (rel_diff hd (smul hd m P) P hx hy hu h0 h1)
      rw [show 4 * ((x0 * x1 - z0 * z1) * (x0 * x1 - z0 * z1)) = ((x1 - z1) * (x0 + z0) + (x1 + z1) * (x0 - z0)) * ((x1 - z1) * (x0 + z0) + (x1 + z1) * (x0 - z0)) by grind,
        show 4 * (u * ((z0 * x1 - x0 * z1) * (z0 * x1 - x0 * z1))) = u * (((x1 - z1) * (x0 + z0) - (x1 + z1) * (x0 - z0)) * ((x1 - z1) * (x0 + z0) - (x1 + z1) * (x0 - z0))) by grind] at r
      exact r
  · obtain ⟨h0, h1⟩ : Rel x0 z0 (smul hd (m + 1) P) ∧ Rel x1 z1 (smul hd m P) := h
    refine (⟨?_, ?_⟩ : Rel _ _ (smul hd (2 * m + 1 + 1) P) ∧ Rel _ _ (smul hd (2 * m + 1) P))
    · rw [show 2 * m + 1 + 1 = 2 * (m + 1) by omega, e2]; exact rel_double hd _ hc h0
    · rw [e3]
      have r := rel_scale h4 (rel_diff hd (smul hd m P) P hx hy hu h1 h0)
      rw [show 4 * ((x1 * x0 - z1 * z0) * (x1 * x0 - z1 * z0)) = ((x1 - z1) * (x0 + z0) + (x1 + z1) * (x0 - z0)) * ((x1 - z1) * (x0 + z0) + (x1 + z1) * (x0 - z0)) by grind,
        show 4 * (u * ((z1 * x0 - x1 * z0) * (z1 * x0 - x1 * z0))) = u * (((x1 - z1) * (x0 + z0) - (x1 + z1) * (x0 - z0)) * ((x1 - z1) * (x0 + z0) - (x1 + z1) * (x0 - z0))) by grind] at r
      exact r
/-- The ladder's end: the quotient is the u. (The inverse of 0 is 0.) -/
theorem rel_end {X Z : Fin M} {Q : Pt d} (h : Rel X Z Q) : X * Z⁻¹ = (Q.y * Q.y) * (Q.x * Q.x)⁻¹ := by
  obtain ⟨l, hl, rfl, rfl⟩ := h
  by_cases hx : Q.x = 0
  · rw [hx, show l * ((0 : Fin M) * 0) = 0 by grind, show (0 : Fin M) * 0 = 0 by grind, Fd.inv_zero]; grind
  · have h1 := inv_mul (mul_ne hx hx)
    have h2 := inv_mul (mul_ne hl (mul_ne hx hx))
    exact frac_eq (mul_ne hl (mul_ne hx hx)) (mul_ne hx hx) (by grind)
end
section
variable {M : Nat} [NeZero M] [Fd M] {d : Fin M}
theorem smul_zero (hd : Ok d) : ∀ n, smul hd n (zero : Pt d) = zero
  | 0 => rfl
  | n + 1 => by
    show add hd (smul hd n zero) zero = zero
    rw [smul_zero hd n, zero_add]
theorem four_zero (hd : Ok d) (P : Pt d) (h : P.x = 0 ∨ P.y = 0) : smul hd 4 P = zero := by
  have e : smul hd 4 P = add hd (add hd P P) (add hd P P) := by
    rw [show 4 = 2 + 2 by rfl, smul_add]
    have : smul hd 2 P = add hd P P := by
      show add hd (add hd zero P) P = add hd P P
      rw [zero_add]
    rw [this]
  rw [e]
  have on := P.on
  unfold On at on
  have two : ∀ Q : Pt d, Q.x = 0 → add hd Q Q = zero := by
    intro Q hq
    have oq := Q.on
    unfold On at oq
    refine Pt.ext' ?_ ?_
    · show sx d Q.x Q.y Q.x Q.y = 0
      unfold sx; rw [hq]; grind
    · show sy d Q.x Q.y Q.x Q.y = 1
      unfold sy
      rw [hq, show 1 - d * 0 * 0 * Q.y * Q.y = 1 by grind, inv_one]
      rw [hq] at oq
      grind
  rcases h with h | h
  · rw [two P h, zero_add]
  · refine two _ ?_
    show sx d P.x P.y P.x P.y = 0
    unfold sx
    rw [h]; grind
/-- At u = 0: z is 0 behind each step. -/
theorem zero_step {M : Nat} [NeZero M] {x0 z0 c : Fin M} (h : x0 * z0 = 0) : ((x0 + z0) * (x0 + z0) - (x0 - z0) * (x0 - z0)) * ((x0 + z0) * (x0 + z0) + ((x0 + z0) * (x0 + z0) - (x0 - z0) * (x0 - z0)) * c) = 0 := by
  rw [show (x0 + z0) * (x0 + z0) - (x0 - z0) * (x0 - z0) = 4 * (x0 * z0) by grind, h]
  grind
end
end Go.Proofs.YtkiaodihfofbnaaGreatDoor.Cv
