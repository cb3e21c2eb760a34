/- The law ScalarRing returns true whatever the input: P1 of its proof; no condition. (Joined by wip/shake.py.) -/
import Derived.Test.YtdaehflffecllaaMScalarRingP0
namespace Go.Proofs.Ytdaehflffecllaa.Q
theorem by_sqrt {N F : Nat} (hN : 2 ≤ N) (hs : N < F * F) (hall : ∀ p, Pr p → p ∣ N → F ∣ p - 1) : Pr N := by
  obtain ⟨p, hp, hpN⟩ := has_pr N hN
  obtain ⟨m, hm⟩ := hpN
  have hp2 := hp.1
  have hm0 : 0 < m := Nat.pos_of_ne_zero fun e => by rw [e] at hm; omega
  by_cases hm1 : m = 1
  · rw [hm, hm1, Nat.mul_one]; exact hp
  · exfalso
    obtain ⟨q, hq, hqm⟩ := has_pr m (by omega)
    have hq2 := hq.1
    have h1 := Nat.le_of_dvd (by omega) (hall p hp ⟨m, hm⟩)
    have h2 := Nat.le_of_dvd (by omega) (hall q hq (Nat.dvd_trans hqm ⟨p, by rw [hm, Nat.mul_comm]⟩))
    have h3 := Nat.le_of_dvd hm0 hqm
    have h4 : F * F ≤ p * m := Nat.mul_le_mul (by omega) (by omega)
    omega
theorem pock2 {N q a : Nat} (hq : Pr q) (hN : 2 ≤ N) (hqd : (N - 1) % q = 0) (hs : N < 2 ^ 512) (h1 : pw N 512 a (N - 1) 1 % N = 1) (h2 : Nat.gcd (pw N 512 a ((N - 1) / q) 1 % N + (N - 1)) N = 1) {p : Nat} (hp : Pr p) (hd : p ∣ N) : q ∣ p - 1 := by
  have e1 := pw_eq N 512 a (N - 1) 1 (by omega)
  have e2 := pw_eq N 512 a ((N - 1) / q) 1 (by have := Nat.div_le_self (N - 1) q; omega)
  rw [Nat.one_mul] at e1 e2
  rw [e1] at h1
  rw [e2] at h2
  exact pock hq hN (Nat.dvd_of_mod_eq_zero hqd) h1 h2 hp hd
theorem pr_2 : Pr 2 := ⟨Nat.le_refl 2, fun d hd => by
  have h1 := Nat.le_of_dvd (by omega) hd
  have h2 := Nat.pos_of_dvd_of_pos hd (by omega)
  omega⟩
theorem pr_3 : Pr 3 := pr_of_tried (f := 0) (by decide) (by decide) (by decide) (by decide +kernel)
theorem pr_19 : Pr 19 := pr_of_tried (f := 1) (by decide) (by decide) (by decide) (by decide +kernel)
theorem pr_97 : Pr 97 := pr_of_tried (f := 4) (by decide) (by decide) (by decide) (by decide +kernel)
theorem pr_227393 : Pr 227393 := pr_of_tried (f := 237) (by decide) (by decide) (by decide) (by decide +kernel)
theorem pr_167 : Pr 167 := pr_of_tried (f := 5) (by decide) (by decide) (by decide) (by decide +kernel)
theorem pr_53 : Pr 53 := pr_of_tried (f := 3) (by decide) (by decide) (by decide) (by decide +kernel)
theorem pr_3009341 : Pr 3009341 := by_sqrt (F := 167 * 53) (by decide +kernel) (by decide +kernel) fun p hp hd => mul_dvd_of (by decide +kernel) (pock2 pr_167 (a := 2) (by decide +kernel) (by decide +kernel) (by decide +kernel) (by decide +kernel) (by decide +kernel) hp hd) (pock2 pr_53 (a := 2) (by decide +kernel) (by decide +kernel) (by decide +kernel) (by decide +kernel) (by decide +kernel) hp hd)
theorem pr_766223 : Pr 766223 := pr_of_tried (f := 437) (by decide) (by decide) (by decide) (by decide +kernel)
theorem pr_342682509629 : Pr 342682509629 := by_sqrt (F := 766223) (by decide +kernel) (by decide +kernel) fun p hp hd => pock2 pr_766223 (a := 2) (by decide +kernel) (by decide +kernel) (by decide +kernel) (by decide +kernel) (by decide +kernel) hp hd
theorem pr_51473 : Pr 51473 := pr_of_tried (f := 112) (by decide) (by decide) (by decide) (by decide +kernel)
theorem pr_23 : Pr 23 := pr_of_tried (f := 1) (by decide) (by decide) (by decide) (by decide +kernel)
theorem pr_8464734851 : Pr 8464734851 := by_sqrt (F := 51473 * 23) (by decide +kernel) (by decide +kernel) fun p hp hd => mul_dvd_of (by decide +kernel) (pock2 pr_51473 (a := 2) (by decide +kernel) (by decide +kernel) (by decide +kernel) (by decide +kernel) (by decide +kernel) hp hd) (pock2 pr_23 (a := 2) (by decide +kernel) (by decide +kernel) (by decide +kernel) (by decide +kernel) (by decide +kernel) hp hd)
theorem pr_991 : Pr 991 := pr_of_tried (f := 15) (by decide) (by decide) (by decide) (by decide +kernel)
theorem pr_11 : Pr 11 := pr_of_tried (f := 1) (by decide) (by decide) (by decide) (by decide +kernel)
theorem pr_671065561 : Pr 671065561 := by_sqrt (F := 991 * 19 * 11) (by decide +kernel) (by decide +kernel) fun p hp hd => mul_dvd_of (by decide +kernel) (mul_dvd_of (by decide +kernel) (pock2 pr_991 (a := 2) (by decide +kernel) (by decide +kernel) (by decide +kernel) (by decide +kernel) (by decide +kernel) hp hd) (pock2 pr_19 (a := 2) (by decide +kernel) (by decide +kernel) (by decide +kernel) (by decide +kernel) (by decide +kernel) hp hd)) (pock2 pr_11 (a := 2) (by decide +kernel) (by decide +kernel) (by decide +kernel) (by decide +kernel) (by decide +kernel) hp hd)
theorem pr_6730519843040614479184435237013 : Pr 6730519843040614479184435237013 := by_sqrt (F := 8464734851 * 671065561) (by decide +kernel) (by decide +kernel) fun p hp hd => mul_dvd_of (by decide +kernel) (pock2 pr_8464734851 (a := 2) (by decide +kernel) (by decide +kernel) (by decide +kernel) (by decide +kernel) (by decide +kernel) hp hd) (pock2 pr_671065561 (a := 2) (by decide +kernel) (by decide +kernel) (by decide +kernel) (by decide +kernel) (by decide +kernel) hp hd)
def Ln : Nat := 181709681073901722637330951972001133588410340171829515070372549795146003961539585716195755291692375963310293709091662304773755859649779
def Fn : Nat := 17452820692845903969127407584374262473241654737604208484458
set_option maxRecDepth 100000 in
theorem pr_L : Pr Ln := by
  refine by_cube (F := Fn) (c := 596549948358319290) (s := 63865463825986434843640460041649678541264732075109356721) (t := 63865463825986434843640460041649678541264732075109356720) (by decide +kernel) (by decide +kernel) (by decide +kernel) (by decide +kernel) (by decide +kernel) (by decide +kernel) (.inr (by decide +kernel)) fun p hp hd => ?_
  have h : 2 * 3 * 19 * 97 * 227393 * 3009341 * 342682509629 * 6730519843040614479184435237013 ∣ p - 1 := mul_dvd_of (by decide +kernel) (mul_dvd_of (by decide +kernel) (mul_dvd_of (by decide +kernel) (mul_dvd_of (by decide +kernel) (mul_dvd_of (by decide +kernel) (mul_dvd_of (by decide +kernel) (mul_dvd_of (by decide +kernel) (pock2 pr_2 (a := 2) (by decide +kernel) (by decide +kernel) (by decide +kernel) (by decide +kernel) (by decide +kernel) hp hd) (pock2 pr_3 (a := 2) (by decide +kernel) (by decide +kernel) (by decide +kernel) (by decide +kernel) (by decide +kernel) hp hd)) (pock2 pr_19 (a := 2) (by decide +kernel) (by decide +kernel) (by decide +kernel) (by decide +kernel) (by decide +kernel) hp hd)) (pock2 pr_97 (a := 2) (by decide +kernel) (by decide +kernel) (by decide +kernel) (by decide +kernel) (by decide +kernel) hp hd)) (pock2 pr_227393 (a := 2) (by decide +kernel) (by decide +kernel) (by decide +kernel) (by decide +kernel) (by decide +kernel) hp hd)) (pock2 pr_3009341 (a := 2) (by decide +kernel) (by decide +kernel) (by decide +kernel) (by decide +kernel) (by decide +kernel) hp hd)) (pock2 pr_342682509629 (a := 2) (by decide +kernel) (by decide +kernel) (by decide +kernel) (by decide +kernel) (by decide +kernel) hp hd)) (pock2 pr_6730519843040614479184435237013 (a := 2) (by decide +kernel) (by decide +kernel) (by decide +kernel) (by decide +kernel) (by decide +kernel) hp hd)
  exact h
end Go.Proofs.Ytdaehflffecllaa.Q
