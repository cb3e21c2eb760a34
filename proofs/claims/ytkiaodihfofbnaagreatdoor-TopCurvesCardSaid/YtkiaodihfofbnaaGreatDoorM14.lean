/- X448 of a secret number and a point's u is the u of that number times the point (the law TopCurves): part 15 of 22 of its proof: p is a prime. No condition. -/
import Derived.ProofKit
set_option linter.unusedVariables false
set_option linter.unusedSimpArgs false
namespace Go.Proofs.YtkiaodihfofbnaaGreatDoor.Q

def Pr (p : Nat) : Prop := 2 ≤ p ∧ ∀ d, d ∣ p → d = 1 ∨ d = p
theorem has_pr (n : Nat) (h : 2 ≤ n) : ∃ p, Pr p ∧ p ∣ n := by
  induction n using Nat.strongRecOn with
  | _ n ih =>
    by_cases hp : ∀ d, d ∣ n → d = 1 ∨ d = n
    · exact ⟨n, ⟨h, hp⟩, Nat.dvd_refl n⟩
    · obtain ⟨d, hd⟩ := Classical.not_forall.1 hp
      obtain ⟨h1, h2⟩ := Classical.not_imp.1 hd
      have h3 : d ≤ n := Nat.le_of_dvd (by omega) h1
      have h4 : 0 < d := Nat.pos_of_dvd_of_pos h1 (by omega)
      obtain ⟨p, hp1, hp2⟩ := ih d (by omega) (by omega)
      exact ⟨p, hp1, Nat.dvd_trans hp2 h1⟩
theorem Pr.coprime {p a : Nat} (h : Pr p) (ha : ¬ p ∣ a) : Nat.Coprime p a := by
  rcases h.2 (Nat.gcd p a) (Nat.gcd_dvd_left p a) with h1 | h1
  · exact h1
  · exact absurd (h1 ▸ Nat.gcd_dvd_right p a) ha
theorem Pr.dvd_mul {p a b : Nat} (h : Pr p) (hd : p ∣ a * b) : p ∣ a ∨ p ∣ b := by
  by_cases ha : p ∣ a
  · exact .inl ha
  · exact .inr ((h.coprime ha).dvd_of_dvd_mul_left hd)
theorem Pr.dvd_pow {p a : Nat} (h : Pr p) : ∀ n, p ∣ a ^ n → p ∣ a
  | 0, hd => by have h2 := h.1; rw [Nat.pow_zero] at hd; have := Nat.le_of_dvd (by omega) hd; omega
  | n + 1, hd => by rw [Nat.pow_succ] at hd; exact (h.dvd_mul hd).elim (h.dvd_pow n) id

/-! ### Fermat -/
def C : Nat → Nat → Nat
  | _, 0 => 1
  | 0, _ + 1 => 0
  | n + 1, k + 1 => C n k + C n (k + 1)
theorem C_zero (n : Nat) : C n 0 = 1 := by cases n <;> rfl
theorem C_step (n k : Nat) : C (n + 1) (k + 1) = C n k + C n (k + 1) := rfl
theorem C_top : ∀ n k, n < k → C n k = 0
  | 0, 0, h => by omega
  | 0, k + 1, _ => rfl
  | n + 1, 0, h => by omega
  | n + 1, k + 1, h => by rw [C_step, C_top n k (by omega), C_top n (k + 1) (by omega)]
theorem C_self : ∀ n, C n n = 1
  | 0 => rfl
  | n + 1 => by rw [C_step, C_self n, C_top n (n + 1) (by omega)]
theorem C_mul : ∀ n k, (k + 1) * C (n + 1) (k + 1) = (n + 1) * C n k
  | 0, 0 => rfl
  | 0, k + 1 => by rw [C_top 1 (k + 1 + 1) (by omega), C_top 0 (k + 1) (by omega)]; simp
  | n + 1, 0 => by
    have h := C_mul n 0
    rw [C_step, C_zero]
    rw [C_zero] at h
    omega
  | n + 1, k + 1 => by
    have h1 := C_mul n k
    have h2 := C_mul n (k + 1)
    have e1 : C (n + 1 + 1) (k + 1 + 1) = C (n + 1) (k + 1) + C (n + 1) (k + 1 + 1) := rfl
    have e2 : C (n + 1) (k + 1) = C n k + C n (k + 1) := rfl
    rw [e1]
    have e3 : (k + 1 + 1) * (C (n + 1) (k + 1) + C (n + 1) (k + 1 + 1)) = (k + 1) * C (n + 1) (k + 1) + C (n + 1) (k + 1) + (k + 1 + 1) * C (n + 1) (k + 1 + 1) := by grind
    rw [e3, h1, h2, e2]
    grind
def S (n a : Nat) : Nat → Nat
  | 0 => 0
  | m + 1 => S n a m + C n m * a ^ m
theorem S_step (n a : Nat) : ∀ m, S (n + 1) a (m + 1) = S n a (m + 1) + a * S n a m
  | 0 => by simp [S, C_zero]
  | m + 1 => by
    have h := S_step n a m
    have e1 : S (n + 1) a (m + 1 + 1) = S (n + 1) a (m + 1) + C (n + 1) (m + 1) * a ^ (m + 1) := rfl
    have e2 : S n a (m + 1 + 1) = S n a (m + 1) + C n (m + 1) * a ^ (m + 1) := rfl
    have e3 : S n a (m + 1) = S n a m + C n m * a ^ m := rfl
    rw [e1, h, C_step, e2, Nat.pow_succ]
    have e4 : a * S n a (m + 1) = a * S n a m + a * (C n m * a ^ m) := by rw [e3, Nat.mul_add]
    rw [e4]
    grind
theorem binom (a : Nat) : ∀ n, (a + 1) ^ n = S n a (n + 1)
  | 0 => by simp [S, C_zero]
  | n + 1 => by
    rw [S_step, show S n a (n + 1 + 1) = S n a (n + 1) + C n (n + 1) * a ^ (n + 1) from rfl, C_top n (n + 1) (by omega), Nat.zero_mul, ← binom a n, Nat.pow_succ, Nat.mul_add, Nat.mul_one, Nat.mul_comm a]
    omega
theorem Pr.C_dvd {p : Nat} (h : Pr p) (k : Nat) (h0 : 0 < k) (h1 : k < p) : p ∣ C p k := by
  obtain ⟨k, rfl⟩ : ∃ m, k = m + 1 := ⟨k - 1, by omega⟩
  obtain ⟨q, rfl⟩ : ∃ m, p = m + 1 := ⟨p - 1, by omega⟩
  have hd : q + 1 ∣ (k + 1) * C (q + 1) (k + 1) := ⟨C q k, C_mul q k⟩
  refine (h.dvd_mul hd).resolve_left fun hh => ?_
  have := Nat.le_of_dvd (by omega) hh
  omega
theorem Pr.S_mod {p : Nat} (h : Pr p) (a : Nat) : ∀ m, m + 1 ≤ p → S p a (m + 1) % p = 1
  | 0, _ => by
    have := h.1
    simp [S, C_zero]
    exact Nat.mod_eq_of_lt (by omega)
  | m + 1, hm => by
    have ih := h.S_mod a m (by omega)
    obtain ⟨c, hc⟩ := h.C_dvd (m + 1) (by omega) (by omega)
    rw [show S p a (m + 1 + 1) = S p a (m + 1) + C p (m + 1) * a ^ (m + 1) from rfl, hc, Nat.mul_assoc, Nat.add_mul_mod_self_left, ih]
theorem Pr.frob {p : Nat} (h : Pr p) (a : Nat) : (a + 1) ^ p % p = (a ^ p + 1) % p := by
  have h2 := h.1
  have h1 := h.S_mod a (p - 1) (by omega)
  rw [show p - 1 + 1 = p by omega] at h1
  rw [binom, show S p a (p + 1) = S p a p + C p p * a ^ p from rfl, C_self, Nat.one_mul, Nat.add_mod, h1, Nat.add_comm, Nat.add_mod (a ^ p) 1, Nat.mod_eq_of_lt (show 1 < p by omega)]
theorem Pr.fermat0 {p : Nat} (h : Pr p) : ∀ a, a ^ p % p = a % p
  | 0 => by have := h.1; rw [Nat.zero_pow (by omega)]
  | a + 1 => by rw [h.frob, Nat.add_mod, h.fermat0 a, ← Nat.add_mod]
theorem Pr.fermat {p : Nat} (h : Pr p) (a : Nat) (ha : ¬ p ∣ a) : a ^ (p - 1) % p = 1 := by
  have h2 := h.1
  have h0 := h.fermat0 a
  have hpos : 0 < a := Nat.pos_of_ne_zero fun e => ha (e ▸ Nat.dvd_zero p)
  have hp : 1 ≤ a ^ (p - 1) := Nat.pow_pos hpos
  have e : a ^ p = a * a ^ (p - 1) := by rw [show p = p - 1 + 1 by omega, Nat.pow_succ, Nat.mul_comm, show p - 1 + 1 - 1 = p - 1 by omega]
  have hle : a ≤ a ^ p := by rw [e]; exact Nat.le_mul_of_pos_right a hp
  have hd : p ∣ a ^ p - a := by
    apply Nat.dvd_of_mod_eq_zero
    rw [← Nat.sub_mod_eq_zero_of_mod_eq h0]
  rw [e, show a * a ^ (p - 1) - a = a * (a ^ (p - 1) - 1) by rw [Nat.mul_sub, Nat.mul_one]] at hd
  have h3 := (h.dvd_mul hd).resolve_left ha
  obtain ⟨c, hc⟩ := h3
  rw [show a ^ (p - 1) = p * c + 1 by omega, Nat.mul_add_mod, Nat.mod_eq_of_lt (by omega)]

/-! ### Pocklington -/
theorem pow_one_mod {p x : Nat} (hp : 2 ≤ p) (h : x % p = 1) (n : Nat) : x ^ n % p = 1 := by
  rw [Nat.pow_mod, h, Nat.one_pow, Nat.mod_eq_of_lt (by omega)]
theorem pow_gcd {p x : Nat} (hp : 2 ≤ p) : ∀ (m n : Nat), x ^ m % p = 1 → x ^ n % p = 1 → x ^ Nat.gcd m n % p = 1 := by
  intro m
  induction m using Nat.strongRecOn with
  | _ m ih =>
    intro n hm hn
    by_cases h0 : m = 0
    · subst h0; rw [Nat.gcd_zero_left]; exact hn
    · rw [Nat.gcd_rec]
      refine ih (n % m) (Nat.mod_lt n (by omega)) m ?_ hm
      have e : x ^ n = (x ^ m) ^ (n / m) * x ^ (n % m) := by rw [← Nat.pow_mul, ← Nat.pow_add, Nat.div_add_mod]
      rw [e, Nat.mul_mod, pow_one_mod hp hm, Nat.one_mul, Nat.mod_mod] at hn
      exact hn
/-- A prime q of N-1: every prime of N leaves 1, divided by q. -/
theorem pock {N q a : Nat} (hq : Pr q) (hN : 2 ≤ N) (hqd : q ∣ N - 1) (h1 : a ^ (N - 1) % N = 1) (h2 : Nat.gcd (a ^ ((N - 1) / q) % N + (N - 1)) N = 1) {p : Nat} (hp : Pr p) (hpN : p ∣ N) : q ∣ p - 1 := by
  have hp2 := hp.1
  have m1 : a ^ (N - 1) % p = 1 := by rw [← Nat.mod_mod_of_dvd _ hpN, h1, Nat.mod_eq_of_lt (by omega)]
  have hpa : ¬ p ∣ a := fun hd => by
    have : p ∣ a ^ (N - 1) := by rw [show N - 1 = N - 1 - 1 + 1 by omega, Nat.pow_succ]; exact Nat.dvd_trans hd (Nat.dvd_mul_left a _)
    rw [Nat.mod_eq_zero_of_dvd this] at m1; omega
  have m2 : (a ^ ((N - 1) / q)) ^ q % p = 1 := by rw [← Nat.pow_mul, Nat.div_mul_cancel hqd]; exact m1
  have m3 : (a ^ ((N - 1) / q)) ^ (p - 1) % p = 1 := hp.fermat _ fun hd => hpa (hp.dvd_pow _ hd)
  have m4 := pow_gcd hp2 _ _ m2 m3
  rcases hq.2 _ (Nat.gcd_dvd_left q (p - 1)) with h | h
  · exfalso
    rw [h, Nat.pow_one] at m4
    have hd : p ∣ a ^ ((N - 1) / q) % N + (N - 1) := by
      apply Nat.dvd_of_mod_eq_zero
      have e : a ^ ((N - 1) / q) % N % p = 1 := by rw [Nat.mod_mod_of_dvd _ hpN, m4]
      obtain ⟨c, hc⟩ := hpN
      rw [Nat.add_mod, e]
      have h5 : (1 + (N - 1) % p) % p = (1 + (N - 1)) % p := by rw [Nat.add_mod 1 (N - 1), Nat.mod_eq_of_lt (show 1 < p by omega)]
      rw [h5, show 1 + (N - 1) = N by omega, hc, Nat.mul_mod_right]
    have := Nat.dvd_gcd hd hpN
    rw [h2] at this
    have := Nat.le_of_dvd (by omega) this
    omega
  · have := Nat.gcd_dvd_right q (p - 1)
    rwa [h] at this
/-- Of N, whose primes all leave 1 divided by F, F beyond the cube root. -/
theorem by_cube {N F c s t : Nat} (hF : 2 ≤ F) (hN : 2 ≤ N) (hcube : N < F * F * F) (hN1 : N = (c * F + s) * F + 1) (hs : s < F) (hF1 : ¬ (F + 1) ∣ N)
    (hsq : (s * s < 4 * c) ∨ (t * t < s * s - 4 * c ∧ s * s - 4 * c < (t + 1) * (t + 1))) (hall : ∀ p, Pr p → p ∣ N → F ∣ p - 1) : Pr N := by
  obtain ⟨p, hp, hpN⟩ := has_pr N hN
  obtain ⟨m, hm⟩ := hpN
  have hp2 := hp.1
  obtain ⟨a, ha⟩ := hall p hp ⟨m, hm⟩
  have hm0 : 0 < m := Nat.pos_of_ne_zero fun e => by rw [e] at hm; omega
  by_cases hm1 : m = 1
  · rw [hm, hm1, Nat.mul_one]; exact hp
  · exfalso
    have ha0 : 0 < a := Nat.pos_of_ne_zero fun e => by rw [e] at ha; omega
    have hpe : p = F * a + 1 := by omega
    -- m leaves 1 too
    have hmm : m % F = 1 := by
      have e1 : N % F = 1 := by rw [hN1, Nat.mul_comm, Nat.mul_add_mod, Nat.mod_eq_of_lt (by omega)]
      rw [hm, hpe, Nat.add_mul, Nat.one_mul, Nat.mul_assoc, Nat.mul_add_mod] at e1
      exact e1
    obtain ⟨b, hb⟩ : ∃ b, m = F * b + 1 := ⟨m / F, by have := Nat.div_add_mod m F; omega⟩
    have hb0 : 0 < b := Nat.pos_of_ne_zero fun e => by rw [e] at hb; omega
    have e1 : N = F * (F * (a * b) + (a + b)) + 1 := by rw [hm, hpe, hb]; grind
    have e2 : F * (c * F + s) = F * (F * (a * b) + (a + b)) := by
      have : (c * F + s) * F = F * (c * F + s) := Nat.mul_comm _ _
      omega
    have e3 : c * F + s = F * (a * b) + (a + b) := Nat.eq_of_mul_eq_mul_left (by omega) e2
    have hab : a * b < F := by
      apply Nat.lt_of_mul_lt_mul_left (a := F * F)
      have : F * (F * (a * b) + (a + b)) = F * F * (a * b) + F * (a + b) := by grind
      omega
    have hsum : a + b ≤ a * b + 1 := by
      obtain ⟨a', rfl⟩ : ∃ x, a = x + 1 := ⟨a - 1, by omega⟩
      obtain ⟨b', rfl⟩ : ∃ x, b = x + 1 := ⟨b - 1, by omega⟩
      have : (a' + 1) * (b' + 1) = a' * b' + a' + b' + 1 := by grind
      omega
    by_cases hlt : a + b < F
    · have hs2 : s = a + b := by
        have h1 := congrArg (· % F) e3
        simp only [Nat.mul_comm c F, Nat.mul_add_mod] at h1
        rwa [Nat.mod_eq_of_lt hs, Nat.mod_eq_of_lt hlt] at h1
      have hc2 : c = a * b := by
        have : F * c = F * (a * b) := by have := Nat.mul_comm c F; omega
        exact Nat.eq_of_mul_eq_mul_left (by omega) this
      subst hs2 hc2
      rcases Nat.le_total a b with hle | hle
      · obtain ⟨d, rfl⟩ := Nat.exists_eq_add_of_le hle
        have e5 : (a + (a + d)) * (a + (a + d)) = 4 * (a * (a + d)) + d * d := by grind
        rw [e5] at hsq
        rcases hsq with h | ⟨h1, h2⟩
        · omega
        · rw [Nat.add_sub_cancel_left] at h1 h2
          have := Nat.mul_self_lt_mul_self_iff.1 h1
          have := Nat.mul_self_lt_mul_self_iff.1 h2
          omega
      · obtain ⟨d, rfl⟩ := Nat.exists_eq_add_of_le hle
        have e5 : (b + d + b) * (b + d + b) = 4 * ((b + d) * b) + d * d := by grind
        rw [e5] at hsq
        rcases hsq with h | ⟨h1, h2⟩
        · omega
        · rw [Nat.add_sub_cancel_left] at h1 h2
          have := Nat.mul_self_lt_mul_self_iff.1 h1
          have := Nat.mul_self_lt_mul_self_iff.1 h2
          omega
    · -- a + b = F, a * b = F - 1: one of them is 1
      have h1 : a = 1 ∨ b = 1 := by
        have h5 : a * b + 1 = a + b := by omega
        obtain ⟨a', rfl⟩ : ∃ x, a = x + 1 := ⟨a - 1, by omega⟩
        obtain ⟨b', rfl⟩ : ∃ x, b = x + 1 := ⟨b - 1, by omega⟩
        have : (a' + 1) * (b' + 1) = a' * b' + a' + b' + 1 := by grind
        have h6 : a' * b' = 0 := by omega
        rcases Nat.mul_eq_zero.1 h6 with h | h <;> omega
      rcases h1 with h | h
      · rw [h, Nat.mul_one] at hpe; exact hF1 ⟨m, by rw [← hpe]; exact hm⟩
      · rw [h, Nat.mul_one] at hb; exact hF1 ⟨p, by rw [← hb, Nat.mul_comm]; exact hm⟩
/-- Several primes, together. -/
theorem mul_dvd_of {a b n : Nat} (h : Nat.Coprime a b) (ha : a ∣ n) (hb : b ∣ n) : a * b ∣ n := h.mul_dvd_of_dvd_of_dvd ha hb
/-- Powers, by squares. -/
def pw (N : Nat) : Nat → Nat → Nat → Nat → Nat
  | 0, _, _, r => r
  | f + 1, a, e, r => if e = 0 then r else pw N f (a * a % N) (e / 2) (if e % 2 = 1 then r * a % N else r)
theorem pw_eq (N : Nat) : ∀ f a e r, e < 2 ^ f → pw N f a e r % N = r * a ^ e % N
  | 0, a, e, r, h => by
    have : e = 0 := by simpa using h
    subst this; simp [pw]
  | f + 1, a, e, r, h => by
    unfold pw
    by_cases h0 : e = 0
    · rw [if_pos h0, h0]; simp
    · rw [if_neg h0, pw_eq N f _ _ _ (by rw [Nat.pow_succ] at h; omega)]
      have e1 : a ^ e = (a * a) ^ (e / 2) * a ^ (e % 2) := by
        rw [← Nat.pow_two, ← Nat.pow_mul, ← Nat.pow_add, Nat.div_add_mod]
      rcases Nat.mod_two_eq_zero_or_one e with h1 | h1
      · rw [if_neg (by omega), e1, h1, Nat.pow_zero, Nat.mul_one, Nat.mul_mod, ← Nat.pow_mod, ← Nat.mul_mod]
      · rw [if_pos h1, e1, h1, Nat.pow_one, Nat.mul_mod, ← Nat.pow_mod, Nat.mod_mod, ← Nat.mul_mod]
        congr 1
        rw [Nat.mul_assoc, Nat.mul_comm a]
/-- No divisor from i on, so many tried, two by two. -/
def tried (n : Nat) : Nat → Nat → Bool
  | 0, _ => true
  | f + 1, i => n % i != 0 && tried n f (i + 2)
theorem tried_no (n : Nat) : ∀ f i, tried n f i = true → ∀ j, j < f → ¬ (i + 2 * j) ∣ n
  | 0, _, _, j, hj => by omega
  | f + 1, i, h, j, hj => by
    unfold tried at h
    rw [Bool.and_eq_true] at h
    cases j with
    | zero => intro hd; have := Nat.mod_eq_zero_of_dvd hd; simp at h this; omega
    | succ j => have := tried_no n f (i + 2) h.2 j (by omega); rwa [show i + 2 * (j + 1) = i + 2 + 2 * j by omega]
/-- An odd number that nothing from 3 on up to its root divides. -/
theorem pr_of_tried {n f : Nat} (h2 : 3 ≤ n) (hodd : n % 2 = 1) (hf : n < (3 + 2 * f) * (3 + 2 * f)) (h : tried n f 3 = true) : Pr n := by
  have key : ∀ d, d ∣ n → 2 ≤ d → d < 3 + 2 * f → False := by
    intro d hd h3 h4
    have ho : d % 2 = 1 := by
      rcases Nat.mod_two_eq_zero_or_one d with e | e
      · obtain ⟨c, rfl⟩ := hd
        rw [Nat.mul_mod, e, Nat.zero_mul, Nat.zero_mod] at hodd; omega
      · exact e
    have := tried_no n f 3 h ((d - 3) / 2) (by omega)
    rw [show 3 + 2 * ((d - 3) / 2) = d by omega] at this
    exact this hd
  refine ⟨by omega, fun d hd => ?_⟩
  obtain ⟨c, hc⟩ := hd
  by_cases h1 : d = 1
  · exact .inl h1
  · by_cases h3 : c = 1
    · right; rw [hc, h3, Nat.mul_one]
    · exfalso
      have hd0 : 2 ≤ d := by rcases d with _ | _ | d <;> simp at hc h1 ⊢ <;> omega
      have hc0 : 2 ≤ c := by rcases c with _ | _ | c <;> simp at hc h3 ⊢ <;> omega
      have k1 : 3 + 2 * f ≤ d := Nat.le_of_not_lt fun h => key d ⟨c, hc⟩ hd0 h
      have k2 : 3 + 2 * f ≤ c := Nat.le_of_not_lt fun h => key c ⟨d, by rw [hc, Nat.mul_comm]⟩ hc0 h
      have := Nat.mul_le_mul k1 k2
      omega
end Go.Proofs.YtkiaodihfofbnaaGreatDoor.Q
namespace Go.Proofs.YtkiaodihfofbnaaGreatDoor.Cv
open Go.Proofs.YtkiaodihfofbnaaGreatDoor.Q
theorem by_sqrt {N F : Nat} (hN : 2 ≤ N) (hs : N < F * F) (hall : ∀ p, Pr p → p ∣ N → F ∣ p - 1) : Pr N := by
  obtain ⟨p, hp, hpN⟩ := has_pr N hN
  obtain ⟨m, hm⟩ := hpN
  have hp2 := hp.1
  have hm0 : 0 < m := Nat.pos_of_ne_zero fun e => by rw [e] at hm; omega
  by_cases hm1 : m = 1
  · rw [hm, hm1, Nat.mul_one]; exact hp
  · exfalso
    obtain ⟨q, hq, hqm⟩ := has_pr m (by omega)
    have hq2 := hq.1
    have h1 := Nat.le_of_dvd (by omega) (hall p hp ⟨m, hm⟩)
    have h2 := Nat.le_of_dvd (by omega) (hall q hq (Nat.dvd_trans hqm ⟨p, by rw [hm, Nat.mul_comm]⟩))
    have h3 := Nat.le_of_dvd hm0 hqm
    have h4 : F * F ≤ p * m := Nat.mul_le_mul (by omega) (by omega)
    omega
theorem pock2 {N q a : Nat} (hq : Pr q) (hN : 2 ≤ N) (hqd : (N - 1) % q = 0) (hs : N < 2 ^ 512) (h1 : pw N 512 a (N - 1) 1 % N = 1) (h2 : Nat.gcd (pw N 512 a ((N - 1) / q) 1 % N + (N - 1)) N = 1) {p : Nat} (hp : Pr p) (hd : p ∣ N) : q ∣ p - 1 := by
  have e1 := pw_eq N 512 a (N - 1) 1 (by omega)
  have e2 := pw_eq N 512 a ((N - 1) / q) 1 (by have := Nat.div_le_self (N - 1) q; omega)
  rw [Nat.one_mul] at e1 e2
  rw [e1] at h1
  rw [e2] at h2
  exact pock hq hN (Nat.dvd_of_mod_eq_zero hqd) h1 h2 hp hd
theorem pr_6197 : Pr 6197 := pr_of_tried (f := 38) (by decide) (by decide) (by decide) (by decide +kernel)
theorem pr_61 : Pr 61 := pr_of_tried (f := 3) (by decide) (by decide) (by decide) (by decide +kernel)
theorem pr_1335912079 : Pr 1335912079 := by_sqrt (F := 6197 * 61) (by decide +kernel) (by decide +kernel) fun p hp hd => mul_dvd_of (by decide +kernel) (pock2 pr_6197 (a := 2) (by decide +kernel) (by decide +kernel) (by decide +kernel) (by decide +kernel) (by decide +kernel) hp hd) (pock2 pr_61 (a := 2) (by decide +kernel) (by decide +kernel) (by decide +kernel) (by decide +kernel) (by decide +kernel) hp hd)
theorem pr_32061889897 : Pr 32061889897 := by_sqrt (F := 1335912079) (by decide +kernel) (by decide +kernel) fun p hp hd => pock2 pr_1335912079 (a := 2) (by decide +kernel) (by decide +kernel) (by decide +kernel) (by decide +kernel) (by decide +kernel) hp hd
theorem pr_25136521679249 : Pr 25136521679249 := by_sqrt (F := 32061889897) (by decide +kernel) (by decide +kernel) fun p hp hd => pock2 pr_32061889897 (a := 2) (by decide +kernel) (by decide +kernel) (by decide +kernel) (by decide +kernel) (by decide +kernel) hp hd
theorem pr_116989 : Pr 116989 := pr_of_tried (f := 170) (by decide) (by decide) (by decide) (by decide +kernel)
theorem pr_1255525949 : Pr 1255525949 := by_sqrt (F := 116989) (by decide +kernel) (by decide +kernel) fun p hp hd => pock2 pr_116989 (a := 2) (by decide +kernel) (by decide +kernel) (by decide +kernel) (by decide +kernel) (by decide +kernel) hp hd
theorem pr_37414057161322375957408148834323969 : Pr 37414057161322375957408148834323969 := by_sqrt (F := 25136521679249 * 1255525949) (by decide +kernel) (by decide +kernel) fun p hp hd => mul_dvd_of (by decide +kernel) (pock2 pr_25136521679249 (a := 3) (by decide +kernel) (by decide +kernel) (by decide +kernel) (by decide +kernel) (by decide +kernel) hp hd) (pock2 pr_1255525949 (a := 3) (by decide +kernel) (by decide +kernel) (by decide +kernel) (by decide +kernel) (by decide +kernel) hp hd)
theorem pr_217003 : Pr 217003 := pr_of_tried (f := 232) (by decide) (by decide) (by decide) (by decide +kernel)
theorem pr_1764234391 : Pr 1764234391 := by_sqrt (F := 217003) (by decide +kernel) (by decide +kernel) fun p hp hd => pock2 pr_217003 (a := 2) (by decide +kernel) (by decide +kernel) (by decide +kernel) (by decide +kernel) (by decide +kernel) hp hd
theorem pr_34741861125639557 : Pr 34741861125639557 := by_sqrt (F := 1764234391) (by decide +kernel) (by decide +kernel) fun p hp hd => pock2 pr_1764234391 (a := 2) (by decide +kernel) (by decide +kernel) (by decide +kernel) (by decide +kernel) (by decide +kernel) hp hd
theorem pr_36131535570665139281 : Pr 36131535570665139281 := by_sqrt (F := 34741861125639557) (by decide +kernel) (by decide +kernel) fun p hp hd => pock2 pr_34741861125639557 (a := 2) (by decide +kernel) (by decide +kernel) (by decide +kernel) (by decide +kernel) (by decide +kernel) hp hd
theorem pr_596242599987116128415063 : Pr 596242599987116128415063 := by_sqrt (F := 36131535570665139281) (by decide +kernel) (by decide +kernel) fun p hp hd => pock2 pr_36131535570665139281 (a := 3) (by decide +kernel) (by decide +kernel) (by decide +kernel) (by decide +kernel) (by decide +kernel) hp hd
theorem pr_379979 : Pr 379979 := pr_of_tried (f := 307) (by decide) (by decide) (by decide) (by decide +kernel)
theorem pr_271 : Pr 271 := pr_of_tried (f := 7) (by decide) (by decide) (by decide) (by decide +kernel)
theorem pr_97859369123353 : Pr 97859369123353 := by_sqrt (F := 379979 * 271) (by decide +kernel) (by decide +kernel) fun p hp hd => mul_dvd_of (by decide +kernel) (pock2 pr_379979 (a := 2) (by decide +kernel) (by decide +kernel) (by decide +kernel) (by decide +kernel) (by decide +kernel) hp hd) (pock2 pr_271 (a := 2) (by decide +kernel) (by decide +kernel) (by decide +kernel) (by decide +kernel) (by decide +kernel) hp hd)
theorem pr_167773885276849215533569 : Pr 167773885276849215533569 := by_sqrt (F := 97859369123353) (by decide +kernel) (by decide +kernel) fun p hp hd => pock2 pr_97859369123353 (a := 3) (by decide +kernel) (by decide +kernel) (by decide +kernel) (by decide +kernel) (by decide +kernel) hp hd
theorem pr_726838724295606890549323807888004534353641360687318060281490199180612328166730772686396383698676545930088884461843637361053498018365439 : Pr 726838724295606890549323807888004534353641360687318060281490199180612328166730772686396383698676545930088884461843637361053498018365439 := by_sqrt (F := 37414057161322375957408148834323969 * 596242599987116128415063 * 167773885276849215533569) (by decide +kernel) (by decide +kernel) fun p hp hd => mul_dvd_of (by decide +kernel) (mul_dvd_of (by decide +kernel) (pock2 pr_37414057161322375957408148834323969 (a := 2) (by decide +kernel) (by decide +kernel) (by decide +kernel) (by decide +kernel) (by decide +kernel) hp hd) (pock2 pr_596242599987116128415063 (a := 2) (by decide +kernel) (by decide +kernel) (by decide +kernel) (by decide +kernel) (by decide +kernel) hp hd)) (pock2 pr_167773885276849215533569 (a := 2) (by decide +kernel) (by decide +kernel) (by decide +kernel) (by decide +kernel) (by decide +kernel) hp hd)
end Go.Proofs.YtkiaodihfofbnaaGreatDoor.Cv
