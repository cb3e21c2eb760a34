/- What number.Mul, number.Div and the law's own helpers come to; and the chapter's examples. -/
import Derived.Test.YtdaehflffecllaaNx1
import Derived.Test.YtdaehflffecllaaNx2
import Derived.Test.YtdaehflffecllaaNx3
import Derived.Test.YtdaehflffecllaaA1
import Derived.Lib.Mul64
namespace Go.Proofs.Ytdaehflffecllaa.A
open Go.RowKit Go.Proofs.YtdaehflffecllaaW.PrintWords Go.Proofs.Ytdaehflffecllaa.N Go.Proofs.Ytdaehflffecllaa.T

theorem maskN (a : Nat) (ha : a < 18446744073709551616) : Go.bits .and .u64 (a : Int) 4294967295 = ((a % 4294967296 : Nat) : Int) := by
  have h := bits_and_u64_nat a 4294967295 ha (by omega)
  have e : a &&& 4294967295 = a % 4294967296 := Nat.and_two_pow_sub_one_eq_mod a 32
  rw [e] at h
  exact h
theorem divN (a : Nat) : (a : Int) / 4294967296 = ((a / 4294967296 : Nat) : Int) := by omega
theorem mulN (a b : Nat) : (a : Int) * (b : Int) = ((a * b : Nat) : Int) := (Int.natCast_mul a b).symm
theorem addN (a b : Nat) : (a : Int) + (b : Int) = ((a + b : Nat) : Int) := (Int.natCast_add a b).symm
theorem wrapN (a : Nat) (ha : a < 18446744073709551616) : IntKind.u64.wrap (a : Int) = (a : Int) := by rw [IntKind.wrap_u64]; omega
theorem wrapM (a : Nat) : IntKind.u64.wrap (a : Int) = ((a % 18446744073709551616 : Nat) : Int) := by rw [IntKind.wrap_u64]; omega
theorem mul64_nat (x y : Nat) (hx : x < 18446744073709551616) (hy : y < 18446744073709551616) : bits_Mul64.f (x : Int) (y : Int) = some (((x * y / 18446744073709551616 : Nat) : Int), ((x * y % 18446744073709551616 : Nat) : Int)) := by
  obtain ⟨bd, bt, bw, hhi⟩ := Lib.mul64_hi x y hx hy
  have ba := Lib.half_mul_le (a := x / 4294967296) (b := y / 4294967296) (by omega) (by omega)
  have bb := Lib.half_mul_le (a := x / 4294967296) (b := y % 4294967296) (by omega) (by omega)
  have bc := Lib.half_mul_le (a := x % 4294967296) (b := y / 4294967296) (by omega) (by omega)
  have ba' : x / 4294967296 * (y / 4294967296) < 18446744073709551616 := by omega
  have bb' : x / 4294967296 * (y % 4294967296) < 18446744073709551616 := by omega
  have bc' : x % 4294967296 * (y / 4294967296) < 18446744073709551616 := by omega
  have bh1 : x / 4294967296 * (y / 4294967296) + (x / 4294967296 * (y % 4294967296) + x % 4294967296 * (y % 4294967296) / 4294967296) / 4294967296 < 18446744073709551616 := by omega
  have bh : x / 4294967296 * (y / 4294967296) + (x / 4294967296 * (y % 4294967296) + x % 4294967296 * (y % 4294967296) / 4294967296) / 4294967296 + ((x / 4294967296 * (y % 4294967296) + x % 4294967296 * (y % 4294967296) / 4294967296) % 4294967296 + x % 4294967296 * (y / 4294967296)) / 4294967296 < 18446744073709551616 := by omega
  unfold bits_Mul64.f
  simp only [maskN x hx, maskN y hy, divN, mulN, addN, wrapN _ bd, wrapN _ bb', wrapN _ bt, maskN _ bt, wrapN _ bc', wrapN _ bw, wrapN _ ba', wrapN _ bh1, wrapN _ bh, wrapM (x * y)]
  rw [hhi]
theorem mul64_eval (x y : Int) (hx : 0 ≤ x) (hx1 : x < 18446744073709551616) (hy : 0 ≤ y) (hy1 : y < 18446744073709551616) : bits_Mul64.f x y = some (x * y / 18446744073709551616, x * y % 18446744073709551616) := by
  obtain ⟨a, rfl⟩ := Int.eq_ofNat_of_zero_le hx
  obtain ⟨b, rfl⟩ := Int.eq_ofNat_of_zero_le hy
  rw [mul64_nat a b (by omega) (by omega), Int.natCast_ediv, Int.natCast_emod, Int.natCast_mul]; rfl

theorem wrap_id (x : Int) (h0 : 0 ≤ x) (h1 : x < 18446744073709551616) : IntKind.u64.wrap x = x := by rw [IntKind.wrap_u64, Int.emod_eq_of_lt h0 h1]
theorem mul_stepB {B : Int} (hB : 0 < B) (x y o c : Int) (hx : 0 ≤ x) (hx1 : x < B) (hy : 0 ≤ y) (hy1 : y < B) (ho : 0 ≤ o) (ho1 : o < B) (hc : 0 ≤ c) (hc1 : c < B) :
    ((x * y % B + o) % B + c) % B = (x * y + o + c) % B ∧ (x * y / B + (x * y % B + o) / B) + ((x * y % B + o) % B + c) / B = (x * y + o + c) / B ∧ 0 ≤ x * y / B + (x * y % B + o) / B ∧
    x * y / B + (x * y % B + o) / B ≤ (x * y + o + c) / B ∧ (x * y + o + c) / B < B ∧ 0 ≤ (x * y + o + c) / B ∧ x * y / B + (x * y % B + o) / B < B := by
  have h1 : 0 ≤ x * y := Int.mul_nonneg hx hy
  have h2 : x * y ≤ (B - 1) * (B - 1) := Int.mul_le_mul (by omega) (by omega) hy (by omega)
  have h3 : (B - 1) * (B - 1) = B * B - 2 * B + 1 := by grind
  generalize x * y = p at *
  have e1 := Int.emod_add_mul_ediv p B
  have e2 := Int.emod_add_mul_ediv (p % B + o) B
  have e3 := Int.emod_add_mul_ediv ((p % B + o) % B + c) B
  have g1 := Int.emod_nonneg p (show B ≠ 0 by omega)
  have g2 := Int.emod_nonneg (p % B + o) (show B ≠ 0 by omega)
  have g3 := Int.emod_nonneg ((p % B + o) % B + c) (show B ≠ 0 by omega)
  have l3 := Int.emod_lt_of_pos ((p % B + o) % B + c) hB
  have q1 := ediv_nn (b := B) h1 (Int.le_of_lt hB)
  have q2 := ediv_nn (a := p % B + o) (b := B) (by omega) (Int.le_of_lt hB)
  have q3 := ediv_nn (a := (p % B + o) % B + c) (b := B) (by omega) (Int.le_of_lt hB)
  have e : p + o + c = ((p % B + o) % B + c) % B + B * ((p / B + (p % B + o) / B) + ((p % B + o) % B + c) / B) := by grind
  have d1 := div_of e g3 l3
  have d2 := mod_of e g3 l3
  have d3 : (p + o + c) / B < B := Int.ediv_lt_of_lt_mul hB (by omega)
  refine ⟨d2.symm, d1.symm, by omega, by omega, d3, by omega, by omega⟩
theorem mul_step (x y o c : Int) (hx : 0 ≤ x) (hx1 : x < 18446744073709551616) (hy : 0 ≤ y) (hy1 : y < 18446744073709551616) (ho : 0 ≤ o) (ho1 : o < 18446744073709551616) (hc : 0 ≤ c) (hc1 : c < 18446744073709551616) :
    ((x * y % 18446744073709551616 + o) % 18446744073709551616 + c) % 18446744073709551616 = (x * y + o + c) % 18446744073709551616 ∧ IntKind.u64.wrap (IntKind.u64.wrap (x * y / 18446744073709551616 + (x * y % 18446744073709551616 + o) / 18446744073709551616) + ((x * y % 18446744073709551616 + o) % 18446744073709551616 + c) / 18446744073709551616) = (x * y + o + c) / 18446744073709551616 ∧ 0 ≤ (x * y + o + c) / 18446744073709551616 ∧ (x * y + o + c) / 18446744073709551616 < 18446744073709551616 ∧ 0 ≤ x * y := by
  obtain ⟨m1, m2, m3, m4, m5, m6, m7⟩ := mul_stepB B0 x y o c hx hx1 hy hy1 ho ho1 hc hc1
  refine ⟨m1, ?_, m6, m5, Int.mul_nonneg hx hy⟩
  rw [wrap_id _ m3 m7, m2, wrap_id _ m6 m5]
theorem bsome {α β : Type} (a : α) (f : α → Option β) : (some a).bind f = f a := by cases h : f a <;> simp [h]
theorem mul_alg (B p p2 s q c x y o V1 V2 V3 : Int) (h : V1 + p * p2 * c = V2 + p * (x * V3)) (e : s + B * q = x * y + o + c) :
    V1 + p * p2 * s + p * p2 * B * q = V2 + p * p2 * o + p * (x * (V3 + p2 * y)) := by grind
theorem mul_inner (a b : List Int) (hb : dg 18446744073709551616 b) (i : Nat) (x : Int) (hx : 0 ≤ x) (hx1 : x < 18446744073709551616) (old : List Int) (hold : dg 18446744073709551616 old) (hol : old.length = a.length + b.length) (hi : i < a.length) (hal : a.length ≤ 1073741824) (hbl : b.length ≤ 1073741824) (r : List Int) :
    ∀ (d j : Nat) (out : List Int) (c : Int), j + d = b.length → out.length = old.length → dg 18446744073709551616 out → 0 ≤ c → c < 18446744073709551616 → (∀ t : Nat, i + j ≤ t → rd out (t : Int) = rd old (t : Int)) →
    vl 18446744073709551616 (out.take (i + j)) + 18446744073709551616 ^ (i + j) * c = vl 18446744073709551616 (old.take (i + j)) + 18446744073709551616 ^ i * (x * vl 18446744073709551616 (b.take j)) →
    (∀ o : List Int, o.length = old.length → dg 18446744073709551616 o → vl 18446744073709551616 (o.take (i + b.length + 1)) = vl 18446744073709551616 (old.take (i + b.length)) + 18446744073709551616 ^ i * (x * vl 18446744073709551616 b) → Evn (fun k => number_Mul.l0 k b o a a.length ((i : Int) + 1)) r) →
    Evn (fun k => number_Mul.l1 k b out i x c a a.length i b b.length j) r := by
  intro d
  induction d with
  | zero =>
    intro j out c hj ho hd hc hc1 _ hv H
    obtain rfl : j = b.length := by omega
    rw [List.take_length] at hv
    have := H (out.set (i + b.length) c) (by rw [List.length_set]; exact ho) (dg_set hd hc hc1) (by rw [vl_set_take _ _ _ (by omega), hv])
    refine Evn.succ (fun k => ?_) this
    rw [number_Mul.l1, if_neg (by omega), w64 _ (by omega) (by omega), if_pos (by omega), if_pos (by omega), w64 _ (by omega) (by omega), show (i : Int) + (b.length : Int) = ((i + b.length : Nat) : Int) by omega, Int.toNat_natCast]
  | succ d ih =>
    intro j out c hj ho hd hc hc1 hsame hv H
    have ry := rd_bd hb B0 j
    have ro := rd_bd hd B0 (i + j)
    obtain ⟨m1, m2, m3, m4, m5⟩ := mul_step x (rd b (j : Int)) (rd out ((i + j : Nat) : Int)) c hx hx1 ry.1 ry.2 ro.1 ro.2 hc hc1
    have hs0 : 0 ≤ (x * rd b (j : Int) + rd out ((i + j : Nat) : Int) + c) % 18446744073709551616 := by omega
    have hs1 : (x * rd b (j : Int) + rd out ((i + j : Nat) : Int) + c) % 18446744073709551616 < 18446744073709551616 := by omega
    have hsm := hsame (i + j) (Nat.le_refl _)
    refine Evn.succ (fun k => ?_) (ih (j + 1) (out.set (i + j) ((x * rd b (j : Int) + rd out ((i + j : Nat) : Int) + c) % 18446744073709551616)) ((x * rd b (j : Int) + rd out ((i + j : Nat) : Int) + c) / 18446744073709551616) (by omega) (by rw [List.length_set]; exact ho) (dg_set hd hs0 hs1) m3 m4 (fun t ht => by rw [rd_set _ _ _ _ (by omega), if_neg (by omega)]; exact hsame t (by omega)) (by
      have e := Int.emod_add_mul_ediv (x * rd b (j : Int) + rd out ((i + j : Nat) : Int) + c) 18446744073709551616
      have hv2 := hv
      rw [Int.pow_add] at hv2
      have key := mul_alg 18446744073709551616 (18446744073709551616 ^ i) (18446744073709551616 ^ j) _ _ c x (rd b (j : Int)) (rd out ((i + j : Nat) : Int)) _ _ _ hv2 e
      rw [show i + (j + 1) = i + j + 1 by omega, vl_set_take _ _ _ (by omega), vl_take_succ old, vl_take_succ b, ← hsm, Int.pow_succ, Int.pow_add]
      exact key) H)
    rw [number_Mul.l1, if_pos (by omega), if_pos (by omega), if_pos (by omega), mul64_eval x _ hx hx1 ry.1 ry.2, bsome]
    have hz0 : 0 ≤ x * rd b (j : Int) % 18446744073709551616 := Int.emod_nonneg _ (by omega)
    generalize x * rd b (j : Int) / 18446744073709551616 = z1 at *
    generalize x * rd b (j : Int) % 18446744073709551616 = z2 at *
    simp only []
    rw [w64 ((i : Int) + (j : Int)) (by omega) (by omega), if_pos (by omega), if_pos (by omega), show (i : Int) + (j : Int) = ((i + j : Nat) : Int) by omega]
    rw [add64_eval _ _ 0 hz0 ro.1 (by omega) (by omega), bsome]
    simp only [Int.add_zero]
    rw [add64_eval _ _ 0 (Int.emod_nonneg _ (by omega)) hc (by omega) (by omega), bsome]
    simp only [Int.add_zero]
    rw [m1, m2, Int.toNat_natCast, w64 _ (by omega) (by omega), show (j : Int) + 1 = ((j + 1 : Nat) : Int) by omega]
theorem mul_loop (a b : List Int) (ha : dg 18446744073709551616 a) (hb : dg 18446744073709551616 b) (hal : a.length ≤ 1073741824) (hbl : b.length ≤ 1073741824) : ∀ (d i : Nat) (out : List Int), i + d = a.length → out.length = a.length + b.length → dg 18446744073709551616 out →
    vl 18446744073709551616 (out.take (i + b.length)) = vl 18446744073709551616 (a.take i) * vl 18446744073709551616 b → Evn (fun k => number_Mul.l0 k b out a a.length i) (dgs 18446744073709551616 (vl 18446744073709551616 a * vl 18446744073709551616 b)) := by
  intro d
  induction d with
  | zero =>
    intro i out hi ho hd hv
    obtain rfl : i = a.length := by omega
    rw [← ho, List.take_length, List.take_length] at hv
    refine Evn.succ (h := fun _ => some (cutL out)) (fun k => by rw [number_Mul.l0, if_neg (by omega)]; rfl) (Evn.of fun _ => ?_)
    rw [cut_eq B2 hd hv]
  | succ d ih =>
    intro i out hi ho hd hv
    have hx := rd_bd ha B0 i
    have k1 := mul_inner a b hb i (rd a (i : Int)) hx.1 hx.2 out hd ho (by omega) hal hbl (dgs 18446744073709551616 (vl 18446744073709551616 a * vl 18446744073709551616 b)) b.length 0 out 0 (by omega) rfl hd (by omega) (by omega) (fun _ _ => rfl) (by simp [vl]) (fun o h1 h2 h3 => by
      refine Evn.congr (fun k => by rw [show (i : Int) + 1 = ((i + 1 : Nat) : Int) by omega]) (ih (i + 1) o (by omega) (by omega) h2 ?_)
      rw [show i + 1 + b.length = i + b.length + 1 by omega, h3, hv, vl_take_succ, Int.add_mul, Int.mul_assoc])
    refine Evn.succ (fun k => ?_) k1
    rw [number_Mul.l0, if_pos (by omega), if_pos (by omega), if_pos (by omega)]
    rfl
theorem mul_ev (a b : List Int) (ha : dg 18446744073709551616 a) (hb : dg 18446744073709551616 b) (hal : a.length ≤ 1073741824) (hbl : b.length ≤ 1073741824) : Evn (fun k => number_Mul.f k a b) (dgs 18446744073709551616 (vl 18446744073709551616 a * vl 18446744073709551616 b)) := by
  refine Evn.congr (fun k => ?_) (mul_loop a b ha hb hal hbl a.length 0 (List.replicate (a.length + b.length) 0) (by omega) (by simp) (dg_replicate B0 _) (by rw [List.take_replicate, vl_zeros]; simp [vl]))
  unfold number_Mul.f
  rw [w64 _ (by omega) (by omega), if_pos (by omega), if_pos (by omega), show (a.length : Int) + (b.length : Int) = ((a.length + b.length : Nat) : Int) by omega, Int.toNat_natCast]
  rfl

/-! ### the same, of numbers' words -/
theorem ws_len (n : Int) (hn : 0 ≤ n) (m : Nat) (h : n < 18446744073709551616 ^ m) : (dgs 18446744073709551616 n).length ≤ m := dgs_len_le B2 n hn m h
theorem add_ws (x y : Int) (hx : 0 ≤ x) (hy : 0 ≤ y) (m : Nat) (hm : m ≤ 1073741824) (h1 : x < 18446744073709551616 ^ m) (h2 : y < 18446744073709551616 ^ m) : Evn (fun k => number_Add.f k (dgs 18446744073709551616 x) (dgs 18446744073709551616 y)) (dgs 18446744073709551616 (x + y)) := by
  have h := add_ev (dgs 18446744073709551616 x) (dgs 18446744073709551616 y) (dgs_dg B2 x hx) (dgs_dg B2 y hy) (by have := ws_len x hx m h1; omega) (by have := ws_len y hy m h2; omega)
  rwa [vl_dgs B2 x hx, vl_dgs B2 y hy] at h

theorem words_loop (l m : List Int) (hl : l.length ≤ 4611686018427387904) (hlm : l.length = m.length) : ∀ (d i : Nat), i + d = l.length → l.take i = m.take i → Evn (fun k => chicorylaw03_Words.l0 k l m i) (decide (l = m)) := by
  intro d
  induction d with
  | zero =>
    intro i hi h
    rw [List.take_of_length_le (by omega), List.take_of_length_le (by omega)] at h
    refine Evn.succ (h := fun _ => some true) (fun k => by rw [chicorylaw03_Words.l0, if_neg (by omega)]) (Evn.of fun _ => ?_)
    rw [decide_eq_true h]
  | succ d ih =>
    intro i hi h
    by_cases he : rd l (i : Int) = rd m (i : Int)
    · refine Evn.succ (fun k => ?_) (ih (i + 1) (by omega) (by rw [take_rd l i (by omega), take_rd m i (by omega), h, he]))
      rw [chicorylaw03_Words.l0, if_pos (by omega), if_pos (by omega), if_pos (by omega), if_pos he, w64 _ (by omega) (by omega)]; rfl
    · refine Evn.succ (h := fun _ => some false) (fun k => by rw [chicorylaw03_Words.l0, if_pos (by omega), if_pos (by omega), if_pos (by omega), if_neg he]) (Evn.of fun _ => ?_)
      rw [decide_eq_false (fun e => he (by rw [e]))]
theorem words_ev (l m : List Int) (hl : l.length ≤ 4611686018427387904) : Evn (fun k => chicorylaw03_Words.f k l m) (decide (l = m)) := by
  by_cases h : l.length = m.length
  · refine Evn.congr (fun k => ?_) (words_loop l m hl h l.length 0 (by omega) rfl)
    unfold chicorylaw03_Words.f
    rw [if_pos (by omega)]; rfl
  · refine Evn.of fun k => ?_
    unfold chicorylaw03_Words.f
    rw [if_neg (by omega), decide_eq_false (fun e => h (by rw [e]))]

/-! ### Div -/
/-- How often n has m, and what is left; or ErrZero. -/
def divR (n m : Int) : List Int × List Int × Int := if m = 0 then ([], [], 15) else (dgs 18446744073709551616 (n / m), dgs 18446744073709551616 (n % m), 0)
theorem div_facts {n d : Int} {m : Nat} (hd : 0 < d) (hn : 0 ≤ n) : 0 ≤ n / 2 ^ m ∧ 0 ≤ n / 2 ^ m % d ∧ n / 2 ^ m % d < d ∧ 0 ≤ n / 2 ^ m / d :=
  ⟨ediv_nn hn (Int.le_of_lt (two_pos m)), Int.emod_nonneg _ (by omega), Int.emod_lt_of_pos _ hd, ediv_nn (ediv_nn hn (Int.le_of_lt (two_pos m))) (by omega)⟩
theorem half_step (n : Int) (m : Nat) : n / 2 ^ m = 2 * (n / 2 ^ (m + 1)) + bitv n (m : Int) := by
  rw [bitv_nat, Int.pow_succ, ← Int.ediv_ediv_of_nonneg (Int.le_of_lt (two_pos m))]
  omega
theorem div_up {h h' d b : Int} (e : h' = 2 * h + b) (h0 : 0 ≤ 2 * (h % d) + b) (hlt : 2 * (h % d) + b < d) : h' / d = 2 * (h / d) ∧ h' % d = 2 * (h % d) + b := by
  have h3 := Int.emod_add_mul_ediv h d
  have e2 : h' = (2 * (h % d) + b) + d * (2 * (h / d)) := by grind
  exact ⟨div_of e2 h0 hlt, mod_of e2 h0 hlt⟩
theorem div_up1 {h h' d b : Int} (e : h' = 2 * h + b) (h0 : d ≤ 2 * (h % d) + b) (hlt : 2 * (h % d) + b - d < d) : h' / d = 2 * (h / d) + 1 ∧ h' % d = 2 * (h % d) + b - d := by
  have h3 := Int.emod_add_mul_ediv h d
  have e2 : h' = (2 * (h % d) + b - d) + d * (2 * (h / d) + 1) := by grind
  exact ⟨div_of e2 (by omega) hlt, mod_of e2 (by omega) hlt⟩
theorem dvd_digit (Q : Int) (w s : Nat) (hs : s < 64) : (Q * 2 ^ (64 * w + s + 1)) / 18446744073709551616 ^ w % 18446744073709551616 % 2 ^ (s + 1) = 0 := by
  have e1 : (2 : Int) ^ (64 * w + s + 1) = 18446744073709551616 ^ w * 2 ^ (s + 1) := by
    rw [show 64 * w + s + 1 = 64 * w + (s + 1) by omega, Int.pow_add, Int.pow_mul]; rfl
  have e2 : (18446744073709551616 : Int) = 2 ^ (s + 1) * 2 ^ (63 - s) := by
    rw [← Int.pow_add, show s + 1 + (63 - s) = 64 by omega]; rfl
  rw [e1, ← Int.mul_assoc, Int.mul_comm Q, Int.mul_assoc, Int.mul_ediv_cancel_left _ (by have := pow_pos B0 w; omega)]
  have e3 : Q * 2 ^ (s + 1) % 18446744073709551616 = 2 ^ (s + 1) * (Q % 2 ^ (63 - s)) := by
    rw [e2, Int.mul_comm Q, Int.mul_emod_mul_of_pos _ _ (two_pos (s + 1))]
  rw [e3, Int.mul_emod_right]
theorem mult_lt {x : Int} {s : Nat} (hs : s < 64) (h0 : 0 ≤ x) (h1 : x < 18446744073709551616) (h : x % 2 ^ (s + 1) = 0) : x + 2 ^ s < 18446744073709551616 := by
  have e2 : (18446744073709551616 : Int) = 2 ^ (s + 1) * 2 ^ (63 - s) := by
    rw [← Int.pow_add, show s + 1 + (63 - s) = 64 by omega]; rfl
  have e3 := Int.emod_add_mul_ediv x (2 ^ (s + 1))
  rw [h] at e3
  have hp := two_pos (s + 1)
  have hp0 := two_pos s
  have hlt : x / 2 ^ (s + 1) < 2 ^ (63 - s) := by
    refine Int.ediv_lt_of_lt_mul hp ?_
    rw [Int.mul_comm, ← e2]; exact h1
  have h4 := Int.mul_le_mul_of_nonneg_left (show x / 2 ^ (s + 1) + 1 ≤ 2 ^ (63 - s) by omega) (Int.le_of_lt hp)
  rw [Int.mul_add, ← e2, Int.pow_succ] at h4
  rw [Int.pow_succ] at e3
  omega
theorem div_loop (a b : List Int) (ha : dg 18446744073709551616 a) (hb : dg 18446744073709551616 b) (hal : a.length ≤ 67108864) (hbl : b.length ≤ 67108864) (hd : 0 < vl 18446744073709551616 b) : ∀ (m i : Nat) (q : List Int), (i : Int) + m = nbit (vl 18446744073709551616 a) → q.length = a.length → dg 18446744073709551616 q →
    vl 18446744073709551616 q = vl 18446744073709551616 a / 2 ^ m / vl 18446744073709551616 b * 2 ^ m → Evn (fun k => number_Div.l0 k a b q (dgs 18446744073709551616 (vl 18446744073709551616 a / 2 ^ m % vl 18446744073709551616 b)) (nbit (vl 18446744073709551616 a)) i) (divR (vl 18446744073709551616 a) (vl 18446744073709551616 b)) := by
  intro m
  have hn := vl_nonneg ha B0
  have hbB := vl_lt hb B0
  have hL : nbit (vl 18446744073709551616 a) ≤ 64 * a.length := by
    have := nbit_le (n := vl 18446744073709551616 a) (m := 64 * a.length) (by rw [Int.pow_mul]; exact vl_lt ha B0)
    omega
  induction m with
  | zero =>
    intro i q hi hq hdq hv
    refine Evn.succ (h := fun _ => some (cutL q, cutL (dgs 18446744073709551616 (vl 18446744073709551616 a / 2 ^ 0 % vl 18446744073709551616 b)), 0)) (fun k => by rw [number_Div.l0, if_neg (by omega)]; rfl) (Evn.of fun _ => ?_)
    obtain ⟨_, f2, _, _⟩ := div_facts (n := vl 18446744073709551616 a) (m := 0) hd hn
    rw [cut_of_dgs B2 _ f2, cut_eq B2 hdq hv]
    unfold divR
    rw [if_neg (by omega)]
    simp
  | succ m ih =>
    intro i q hi hq hdq hv
    obtain ⟨f1, f2, f3, f4⟩ := div_facts (n := vl 18446744073709551616 a) (m := m + 1) hd hn
    have hst := half_step (vl 18446744073709551616 a) m
    have hbt := bitv_bd (vl 18446744073709551616 a) (m : Int)
    have hw : ∀ x : Int, x < 2 * vl 18446744073709551616 b → x < 18446744073709551616 ^ (b.length + 1) := fun x hx => by rw [Int.pow_succ]; omega
    have eL : wrap64 (wrap64 (nbit (vl 18446744073709551616 a) - 1) - (i : Int)) = (m : Int) := by rw [w64 (nbit (vl 18446744073709551616 a) - 1) (by omega) (by omega), w64 _ (by omega) (by omega)]; omega
    have hA : Evn (fun k => number_Add.f k (dgs 18446744073709551616 (vl 18446744073709551616 a / 2 ^ (m + 1) % vl 18446744073709551616 b)) (dgs 18446744073709551616 (vl 18446744073709551616 a / 2 ^ (m + 1) % vl 18446744073709551616 b))) (dgs 18446744073709551616 (2 * (vl 18446744073709551616 a / 2 ^ (m + 1) % vl 18446744073709551616 b))) := by
      have := add_ws (vl 18446744073709551616 a / 2 ^ (m + 1) % vl 18446744073709551616 b) (vl 18446744073709551616 a / 2 ^ (m + 1) % vl 18446744073709551616 b) f2 f2 (b.length + 1) (by omega) (hw _ (by omega)) (hw _ (by omega))
      rwa [show vl 18446744073709551616 a / 2 ^ (m + 1) % vl 18446744073709551616 b + vl 18446744073709551616 a / 2 ^ (m + 1) % vl 18446744073709551616 b = 2 * (vl 18446744073709551616 a / 2 ^ (m + 1) % vl 18446744073709551616 b) by omega] at this
    -- the join, at the remainder with its bit
    have hJ : Evn (fun k => number_Div.j1 k a b q (dgs 18446744073709551616 (2 * (vl 18446744073709551616 a / 2 ^ (m + 1) % vl 18446744073709551616 b) + bitv (vl 18446744073709551616 a) (m : Int))) (m : Int) (nbit (vl 18446744073709551616 a)) i) (divR (vl 18446744073709551616 a) (vl 18446744073709551616 b)) := by
      have g0 : 0 ≤ 2 * (vl 18446744073709551616 a / 2 ^ (m + 1) % vl 18446744073709551616 b) + bitv (vl 18446744073709551616 a) (m : Int) := by omega
      have hlen := ws_len _ g0 (b.length + 1) (hw _ (by omega))
      have hC := compare_ev (dgs 18446744073709551616 (2 * (vl 18446744073709551616 a / 2 ^ (m + 1) % vl 18446744073709551616 b) + bitv (vl 18446744073709551616 a) (m : Int))) b (dgs_dg B2 _ g0) hb (by omega) (by omega)
      rw [vl_dgs B2 _ g0] at hC
      refine Evn.succ (fun k => by rw [number_Div.j1]) (Evn.bind hC ?_)
      by_cases hlt : 2 * (vl 18446744073709551616 a / 2 ^ (m + 1) % vl 18446744073709551616 b) + bitv (vl 18446744073709551616 a) (m : Int) < vl 18446744073709551616 b
      · obtain ⟨u1, u2⟩ := div_up hst g0 hlt
        have := ih (i + 1) q (by omega) hq hdq (by rw [hv, u1, Int.pow_succ]; grind)
        rw [u2] at this
        refine Evn.congr (fun k => ?_) this
        rw [if_pos (cmpI_lt.2 hlt), w64 _ (by omega) (by omega)]; rfl
      · obtain ⟨u1, u2⟩ := div_up1 (d := vl 18446744073709551616 b) hst (by omega) (by omega)
        have hS := sub_ev (dgs 18446744073709551616 (2 * (vl 18446744073709551616 a / 2 ^ (m + 1) % vl 18446744073709551616 b) + bitv (vl 18446744073709551616 a) (m : Int))) b (dgs_dg B2 _ g0) hb (by omega) (by omega)
        rw [vl_dgs B2 _ g0] at hS
        unfold subR at hS
        rw [if_neg hlt] at hS
        have em : (m : Int) = 64 * ((m / 64 : Nat) : Int) + ((m % 64 : Nat) : Int) := by omega
        have ew : m / 64 < q.length := by omega
        have hz : rd q ((m / 64 : Nat) : Int) % 2 ^ (m % 64 + 1) = 0 := by
          rw [rd_vl hdq B0, hv]
          have := dvd_digit (vl 18446744073709551616 a / 2 ^ (m + 1) / vl 18446744073709551616 b) (m / 64) (m % 64) (by omega)
          rwa [show 64 * (m / 64) + m % 64 + 1 = m + 1 by omega] at this
        have hrb := rd_bd hdq B0 (m / 64)
        have hml := mult_lt (x := rd q ((m / 64 : Nat) : Int)) (s := m % 64) (by omega) hrb.1 hrb.2 hz
        have hp2 := two_pos (m % 64)
        have e1 := tdiv_nat m 64
        have e2 := tmod_nat m 64
        rw [show ((64 : Nat) : Int) = 64 from rfl] at e1 e2
        have hsh : shl .u64 1 ((m % 64 : Nat) : Int) = 2 ^ (m % 64) := by rw [shl_eq _ _ (by omega), Int.one_mul, Int.emod_eq_of_lt (by omega) (by omega)]
        have hor := or_add (rd q ((m / 64 : Nat) : Int)) (2 ^ (m % 64)) (m % 64 + 1) hrb.1 hrb.2 (by omega) (by rw [Int.pow_succ]; omega) (by omega) hz
        have := ih (i + 1) (q.set (m / 64) (rd q ((m / 64 : Nat) : Int) + 2 ^ (m % 64))) (by omega) (by rw [List.length_set]; exact hq) (dg_set hdq (by omega) hml) (by
          rw [vl_set _ _ _ ew, hv, u1]
          have hb2 : (18446744073709551616 : Int) ^ (m / 64) * 2 ^ (m % 64) = 2 ^ m := by
            rw [show (18446744073709551616 : Int) = 2 ^ 64 from rfl, ← Int.pow_mul, ← Int.pow_add]; congr 1; omega
          rw [Int.pow_succ]; grind)
        rw [u2] at this
        refine Evn.congr (fun k => by rw [if_neg (fun e => hlt (cmpI_lt.1 e))]) (Evn.bind hS (Evn.congr (fun k => ?_) this))
        simp only []
        rw [e1, e2, w64 _ (by omega) (by omega), if_pos (by omega), if_pos (by omega), if_pos (by omega), Int.toNat_natCast, hsh, hor, w64 _ (by omega) (by omega)]
        rfl
    refine Evn.succ (h := fun k => (number_Len.f k a).bind fun t177 => ((number_Add.f k (dgs 18446744073709551616 (vl 18446744073709551616 a / 2 ^ (m + 1) % vl 18446744073709551616 b)) (dgs 18446744073709551616 (vl 18446744073709551616 a / 2 ^ (m + 1) % vl 18446744073709551616 b))).bind fun t178 => ((number_Bit.f a (wrap64 ((wrap64 (t177 - 1)) - (i : Int)))).bind fun t181 => (if t181 = 1 then ((number_Add.f k t178 (([1] : List Int))).bind fun t185 => (number_Div.j1 k a b q t185 (wrap64 ((wrap64 (t177 - 1)) - (i : Int))) (nbit (vl 18446744073709551616 a)) (i : Int))) else (number_Div.j1 k a b q t178 (wrap64 ((wrap64 (t177 - 1)) - (i : Int))) (nbit (vl 18446744073709551616 a)) (i : Int)))))) (fun k => by rw [number_Div.l0, if_pos (by omega)]) ?_
    refine Evn.bind (len_ev a ha (by omega)) (Evn.bind hA ?_)
    rw [eL]
    by_cases h1 : bitv (vl 18446744073709551616 a) (m : Int) = 1
    · have e1 : ([1] : List Int) = dgs 18446744073709551616 1 := by rw [dgs_pos B2 (by omega)]; rw [show (1 : Int) / 18446744073709551616 = 0 from rfl, dgs_zero]; rfl
      have hB := add_ws (2 * (vl 18446744073709551616 a / 2 ^ (m + 1) % vl 18446744073709551616 b)) 1 (by omega) (by omega) (b.length + 1) (by omega) (hw _ (by omega)) (hw _ (by omega))
      rw [← e1] at hB
      rw [h1] at hJ
      refine Evn.congr (fun k => ?_) (Evn.bind (h := fun k t185 => number_Div.j1 k a b q t185 (m : Int) (nbit (vl 18446744073709551616 a)) (i : Int)) hB hJ)
      rw [bit_ev a ha (m : Int) (by omega)]
      simp only [Option.bind_some]
      rw [if_pos h1]
    · rw [show bitv (vl 18446744073709551616 a) (m : Int) = 0 by omega, Int.add_zero] at hJ
      refine Evn.congr (fun k => ?_) hJ
      rw [bit_ev a ha (m : Int) (by omega)]
      simp only [Option.bind_some]
      rw [if_neg h1]
theorem div_ev (a b : List Int) (ha : dg 18446744073709551616 a) (hb : dg 18446744073709551616 b) (hal : a.length ≤ 67108864) (hbl : b.length ≤ 67108864) : Evn (fun k => number_Div.f k a b) (divR (vl 18446744073709551616 a) (vl 18446744073709551616 b)) := by
  have hn := vl_nonneg ha B0
  have hbn := vl_nonneg hb B0
  have hcut : ∀ k, number_Nat_cut.f k b = some (dgs 18446744073709551616 (vl 18446744073709551616 b)) := fun k => by unfold number_Nat_cut.f; rw [cut_dgs B2 b hb]
  by_cases hz : vl 18446744073709551616 b = 0
  · refine Evn.of fun k => ?_
    unfold number_Div.f
    rw [hcut, hz]
    simp only [Option.bind_some]
    rw [dgs_zero, if_pos (by rfl)]
    unfold divR; rw [if_pos rfl]
  · have hne : ¬ (((dgs 18446744073709551616 (vl 18446744073709551616 b)).length : Int) = 0) := fun e => hz ((dgs_nil_iff B2 _ hbn).1 (List.eq_nil_of_length_eq_zero (by omega)))
    have hnb := nbit_nonneg (vl 18446744073709551616 a)
    have hlt := nbit_lt hn
    have e0 : vl 18446744073709551616 a / 2 ^ (nbit (vl 18446744073709551616 a)).toNat = 0 := Int.ediv_eq_zero_of_lt hn hlt
    have := div_loop a b ha hb hal hbl (by omega) (nbit (vl 18446744073709551616 a)).toNat 0 (List.replicate a.length 0) (by omega) (by simp) (dg_replicate B0 _) (by rw [vl_zeros, e0]; simp)
    rw [e0] at this
    simp only [Int.zero_emod, dgs_zero] at this
    refine Evn.congr (fun k => ?_) (Evn.bind (h := fun k t170 => number_Div.l0 k a b (List.replicate a.length 0) [] t170 0) (len_ev a ha (by omega)) this)
    unfold number_Div.f
    rw [hcut]
    simp only [Option.bind_some]
    rw [if_neg hne, if_pos (by omega), if_pos (by omega), Int.toNat_natCast]

theorem awake_ev : Evn (fun k => chicorylaw03_awake.f k) true := by
  have d1 : dg 18446744073709551616 [18446744073709551615] := dg_one (by omega) (by omega)
  have d7 : dg 18446744073709551616 [7] := dg_one (by omega) (by omega)
  have d2 : dg 18446744073709551616 [2] := dg_one (by omega) (by omega)
  refine Evn.congr (fun k => by unfold chicorylaw03_awake.f; rfl) (Evn.bind (mul_ev _ _ d1 d1 (by decide) (by decide)) (Evn.bind (div_ev _ _ d7 d2 (by decide) (by decide)) ?_))
  have e1 : dgs 18446744073709551616 (vl 18446744073709551616 [18446744073709551615] * vl 18446744073709551616 [18446744073709551615]) = [1, 18446744073709551614] := dgs_eq B2 (by intro x hx; simp at hx; omega) (by decide) (by simp [vl])
  have e2 : dgs 18446744073709551616 (vl 18446744073709551616 [7] / vl 18446744073709551616 [2]) = [3] := dgs_eq B2 (dg_one (by omega) (by omega)) (by decide) (by simp [vl])
  have e3 : dgs 18446744073709551616 (vl 18446744073709551616 [7] % vl 18446744073709551616 [2]) = [1] := dgs_eq B2 (dg_one (by omega) (by omega)) (by decide) (by simp [vl])
  have e4 : divR (vl 18446744073709551616 [7]) (vl 18446744073709551616 [2]) = ([3], [1], 0) := by unfold divR; rw [if_neg (by simp [vl]), e2, e3]
  rw [e1, e4]
  refine Evn.bind (words_ev _ _ (by decide)) (Evn.congr (fun k => by rw [if_pos (by decide)]) (Evn.bind (words_ev _ _ (by decide)) (Evn.congr (fun k => by rw [if_pos (by decide)]) (Evn.bind (words_ev _ _ (by decide)) (Evn.of fun k => ?_)))))
  rw [if_pos (by decide)]; rfl
theorem few_ev (l : List Int) : chicorylaw03_few.f l = some (decide (l.length ≤ 20)) := by
  unfold chicorylaw03_few.f
  congr 1
  rw [decide_eq_decide]; omega
theorem wd_of {l : List Int} (h : ∀ x ∈ l, (Lit.int .u64 x).wf = true) : dg 18446744073709551616 l := fun x hx => by
  have := h x hx
  unfold Lit.wf at this
  rw [Bool.and_eq_true, decide_eq_true_eq, decide_eq_true_eq] at this
  have e1 : IntKind.u64.min = 0 := by decide
  have e2 : IntKind.u64.max = 18446744073709551615 := by decide
  rw [e1, e2] at this
  omega
end Go.Proofs.Ytdaehflffecllaa.A
