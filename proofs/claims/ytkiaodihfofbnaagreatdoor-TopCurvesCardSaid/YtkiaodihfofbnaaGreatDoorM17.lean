/- X448 of a secret number and a point's u is the u of that number times the point (the law TopCurves): part 18 of 22 of its proof: elements and points told; so many times a point. No condition. -/
import Derived.Test.YtkiaodihfofbnaaGreatDoorM13
import Derived.Test.YtkiaodihfofbnaaGreatDoorM16
set_option linter.unusedVariables false
set_option linter.unusedSimpArgs false
namespace Go.Proofs.YtkiaodihfofbnaaGreatDoor.X
open Go Go.RowKit
open Go.Proofs.YtkiaodihfofbnaaGreatDoor.Cv (P dd okd iv)
set_option maxRecDepth 100000

theorem P_pp : P = pp := rfl
abbrev FP := Fin P
def fv (x : El) : FP := Fin.ofNat P x.num
theorem fv_val (x : El) : (fv x).val = x.num % pp := rfl
theorem fv_eq {x y : El} (h : x.num % pp = y.num % pp) : fv x = fv y := Fin.ext h
theorem fv_mul (x y : El) : fv (mulE x y) = fv x * fv y := by
  apply Fin.ext
  rw [Fin.val_mul, fv_val, fv_val, fv_val, mulE_num]
  show _ = _ % pp
  rw [← Nat.mul_mod]
theorem fv_add (x y : El) : fv (addE x y) = fv x + fv y := by
  apply Fin.ext
  rw [Fin.val_add, fv_val, fv_val, fv_val, addE_num]
  show _ = _ % pp
  rw [← Nat.add_mod]
theorem fv_sub (x y : El) : fv (subE x y) = fv x - fv y := by
  have h : fv (subE x y) + fv y = fv x := by
    apply Fin.ext
    rw [Fin.val_add, fv_val, fv_val, fv_val]
    show _ % pp = _
    rw [← Nat.add_mod, subE_num]
  rw [← h]
  grind
theorem fv_nat (n : Nat) (h : n < 72057594037927936) : fv (natE n h) = Fin.ofNat P n := by
  unfold fv; rw [natE_num]
theorem isZ_iff (x : El) : isZ x = true ↔ fv x = 0 := by
  unfold isZ
  rw [decide_eq_true_iff]
  constructor
  · intro h
    apply Fin.ext
    rw [fv_val, h]
    show 0 = 0 % P
    rw [Nat.zero_mod]
  · intro h
    have := congrArg Fin.val h
    rw [fv_val] at this
    rw [this]
    show 0 % P = 0
    exact Nat.zero_mod P
theorem El.ext' {x y : El} (h : x.n = y.n) : x = y := by
  obtain ⟨a0, a1, a2, a3, a4, a5, a6, a7, ok⟩ := x
  obtain ⟨b0, b1, b2, b3, b4, b5, b6, b7, ok'⟩ := y
  unfold El.n at h
  simp only [N8.mk.injEq] at h
  obtain ⟨rfl, rfl, rfl, rfl, rfl, rfl, rfl, rfl⟩ := h
  rfl
theorem strE_congr {x y : El} (h : fv x = fv y) : strE x = strE y := by
  have h1 : x.num % pp = y.num % pp := congrArg Fin.val h
  apply El.ext'
  show digZ (x.num % pp) = digZ (y.num % pp)
  rw [h1]
theorem bytesE_congr {x y : El} (h : fv x = fv y) : bytesE x = bytesE y := by unfold bytesE; rw [strE_congr h]
theorem isZ_congr {x y : El} (h : fv x = fv y) : isZ x = isZ y := by
  have h1 : x.num % pp = y.num % pp := congrArg Fin.val h
  unfold isZ; rw [h1]
theorem pp_lt : pp < 726838724295606890549323807888004534353641360687318060281490199180639288113397923326191050713763565560762521606266177933534601628614656 := by decide
theorem strE_num (x : El) : (strE x).num = x.num % pp := by
  show (digZ (x.num % pp)).val = _
  refine digZ_val (Nat.lt_trans (Nat.mod_lt _ (by decide)) pp_lt)
theorem fv_str (x : El) : fv (strE x) = fv x := fv_eq (by rw [strE_num, Nat.mod_mod])

/-! ### Powers -/
def Pw (n : Nat) (x y : El) : Prop := y.num % pp = x.num ^ n % pp
theorem Pw.one (x : El) : Pw 1 x x := by unfold Pw; rw [Nat.pow_one]
theorem Pw.mul {m n : Nat} {x y z : El} (h : Pw m x y) (k : Pw n x z) : Pw (m + n) x (mulE y z) := by
  unfold Pw at *
  rw [mulE_num, Nat.mul_mod, h, k, ← Nat.mul_mod, Nat.pow_add]
theorem Pw.sq {n : Nat} {x y : El} (h : Pw n x y) : ∀ k, Pw (n * 2 ^ k) x (sqE k y)
  | 0 => by rw [Nat.pow_zero, Nat.mul_one]; exact h
  | k + 1 => by
    have := (Pw.sq h k).mul (Pw.sq h k)
    rw [show n * 2 ^ (k + 1) = n * 2 ^ k + n * 2 ^ k by rw [Nat.pow_succ, ← Nat.mul_assoc, Nat.mul_two]]
    exact this
theorem Pw.jn {m n : Nat} {x y z : El} (h : Pw m x y) (k : Nat) (hz : Pw n x z) : Pw (m * 2 ^ k + n) x (jn y k z) := (h.sq k).mul hz
theorem Pw.cast {m n : Nat} {x y : El} (h : Pw m x y) (e : m = n) : Pw n x y := e ▸ h
theorem ch_pw (x : El) : Pw ((pp - 3) / 4) x (chE x) := by
  have h1 := Pw.one x
  have h2 := h1.jn 1 h1
  have h3 := h2.jn 1 h1
  have h9 := (h3.jn 3 h3).jn 3 h3
  have h18 := h9.jn 9 h9
  have h37 := (h18.jn 1 h1).jn 18 h18
  have h111 := (h37.jn 37 h37).jn 37 h37
  have h222 := h111.jn 111 h111
  exact ((h222.jn 1 h1).jn 223 h222).cast (by decide)
theorem inv_pw (x : El) : Pw (pp - 2) x (invE x) := (((ch_pw x).sq 2).mul (Pw.one x)).cast (by decide)
theorem fv_inv (x : El) : fv (invE x) = (fv x)⁻¹ := by
  apply Fin.ext
  rw [fv_val, inv_pw x]
  show _ = (fv x).val ^ (P - 2) % P
  rw [fv_val]
  show _ = (x.num % pp) ^ (pp - 2) % pp
  rw [← Nat.pow_mod]

/-! ### The bytes -/
theorem byW_nat {a j : Nat} : byW (a : Int) j = ((a / 2 ^ (8 * j) % 256 : Nat) : Int) := by
  unfold byW
  have e : (a : Int).fdiv (2 ^ (8 * j)) = ((a / 2 ^ (8 * j) : Nat) : Int) := fdiv_nat a (8 * j)
  rw [e]
  unfold IntKind.wrap
  simp only [IntKind.bits, IntKind.signed, Bool.false_and, Bool.false_eq_true, if_false]
  have e8 : (2 : Int) ^ 8 = 256 := rfl
  rw [e8]
  omega
theorem byL_get (a : Int) {j n : Nat} (h : j < n) : (byL a n).getD j 0 = byW a j := by
  unfold byL
  rw [List.getD_eq_getElem?_getD, List.getElem?_map, List.getElem?_range h]; rfl
theorem rawL_get (x : El) : ∀ (n i j : Nat), i < n → j < 7 → (rawL x n).getD (7 * i + j) 0 = byW (lN x i) j
  | 0, _, _, h, _ => by omega
  | n + 1, i, j, h, hj => by
    rw [rawL, List.getD_eq_getElem?_getD]
    rcases Nat.lt_or_ge i n with h1 | h1
    · rw [List.getElem?_append_left (by rw [rawL_len]; omega), ← List.getD_eq_getElem?_getD, rawL_get x n i j h1 hj]
    · have : i = n := by omega
      subst this
      rw [List.getElem?_append_right (by rw [rawL_len]; omega), rawL_len, show 7 * i + j - 7 * i = j by omega, ← List.getD_eq_getElem?_getD, byL_get _ hj]
theorem lmb_raw {x : El} {i : Nat} (hi : i < 8) (hx : lN x i < 72057594037927936) : lmb (rawL x 8) i = lN x i := by
  have hb : ∀ j, j < 7 → bt (rawL x 8) (7 * i + j) = lN x i / 2 ^ (8 * j) % 256 := fun j hj => by
    unfold bt
    rw [rawL_get x 8 i j hi hj, byW_nat, Int.toNat_natCast, Nat.mod_mod]
  unfold lmb
  rw [show 7 * i = 7 * i + 0 by rfl, hb 0 (by decide), hb 1 (by decide), hb 2 (by decide), hb 3 (by decide), hb 4 (by decide), hb 5 (by decide), hb 6 (by decide)]
  generalize lN x i = a at *
  omega
theorem ofE_bytes (x : El) : ofE (bytesE x) = strE x := by
  have hd := digZ_lt (x.num % pp)
  have hs : ∀ i, i < 8 → lN (strE x) i < 72057594037927936 := fun i hi => by
    have h8 : i = 0 ∨ i = 1 ∨ i = 2 ∨ i = 3 ∨ i = 4 ∨ i = 5 ∨ i = 6 ∨ i = 7 := by omega
    obtain ⟨h0, h1, h2, h3, h4, h5, h6, h7⟩ := hd
    rcases h8 with rfl | rfl | rfl | rfl | rfl | rfl | rfl | rfl
    · exact h0
    · exact h1
    · exact h2
    · exact h3
    · exact h4
    · exact h5
    · exact h6
    · exact h7
  apply El.ext'
  show N8.mk (lmb (rawL (strE x) 8) 0) (lmb (rawL (strE x) 8) 1) (lmb (rawL (strE x) 8) 2) (lmb (rawL (strE x) 8) 3) (lmb (rawL (strE x) 8) 4) (lmb (rawL (strE x) 8) 5) (lmb (rawL (strE x) 8) 6) (lmb (rawL (strE x) 8) 7) = (strE x).n
  rw [lmb_raw (by decide) (hs 0 (by decide)), lmb_raw (by decide) (hs 1 (by decide)), lmb_raw (by decide) (hs 2 (by decide)), lmb_raw (by decide) (hs 3 (by decide)), lmb_raw (by decide) (hs 4 (by decide)), lmb_raw (by decide) (hs 5 (by decide)), lmb_raw (by decide) (hs 6 (by decide)), lmb_raw (by decide) (hs 7 (by decide))]
  rfl
theorem fv_of_bytes (x : El) : fv (ofE (bytesE x)) = fv x := by rw [ofE_bytes, fv_str]
end Go.Proofs.YtkiaodihfofbnaaGreatDoor.X
namespace Go.Proofs.YtkiaodihfofbnaaGreatDoor.X
open Go Go.RowKit
open Go.Proofs.YtkiaodihfofbnaaGreatDoor.Cv (P dd okd Tell tell_add tell_dbl tell_neg tell_u)
set_option maxRecDepth 100000

abbrev CP := Cv.Pt dd
def Rp (p : Pt) (A : CP) : Prop := Tell (fv p.1) (fv p.2.1) (fv p.2.2) A
theorem fv_negD : fv negD = dd := by
  apply Fin.ext
  have : (fv negD).val = dd.val := by kernel_rfl
  exact this
theorem fv_two : fv two' = 2 := by
  unfold two'; rw [fv_nat]; rfl
theorem fv_E0 : fv E0 = 0 := by
  unfold E0; rw [fv_nat]; rfl
theorem fv_E1 : fv E1' = 1 := by
  unfold E1'; rw [fv_nat]; rfl
theorem fv_zero : fv zeroEl = 0 := by
  apply Fin.ext
  have : (fv zeroEl).val = 0 % P := by kernel_rfl
  exact this
theorem Rp.add {p q : Pt} {A B : CP} (hp : Rp p A) (hq : Rp q B) : Rp (addP p q) (Cv.add okd A B) := by
  unfold Rp at *
  have := tell_add okd hp hq
  simp only [addP, fv_mul, fv_add, fv_sub, fv_negD]
  exact this
theorem Rp.dbl {p : Pt} {A : CP} (hp : Rp p A) : Rp (dblP p) (Cv.add okd A A) := by
  unfold Rp at *
  have := tell_dbl okd fv_two hp
  simp only [dblP, fv_mul, fv_add, fv_sub]
  exact this
theorem Rp.neg {p : Pt} {A : CP} (hp : Rp p A) : Rp (negP p) (Cv.neg A) := by
  unfold Rp at *
  have := tell_neg hp
  simp only [negP, fv_sub, fv_zero]
  exact this
theorem Rp.id : Rp idP Cv.zero := by
  unfold Rp Tell idP
  simp only [fv_E0, fv_E1]
  refine ⟨fun h => Cv.Fd.zero_ne_one (M := P) h.symm, ?_, ?_⟩
  · show (0 : Fin P) = 0 * 1
    grind
  · show (1 : Fin P) = 1 * 1
    grind
theorem Rp.u {p : Pt} {A : CP} (hp : Rp p A) : fv (uP p) = A.y * A.y * (A.x * A.x)⁻¹ := by
  unfold Rp at hp
  have := tell_u hp
  simp only [uP, fv_mul, fv_inv]
  exact this
/-- (1, 0). -/
def iA : CP := ⟨1, 0, by unfold Cv.On; grind⟩
theorem Rp.i : Rp iP iA := by
  unfold Rp Tell iP
  simp only [fv_E0, fv_E1]
  refine ⟨fun h => Cv.Fd.zero_ne_one (M := P) h.symm, ?_, ?_⟩
  · show (1 : Fin P) = 1 * 1
    grind
  · show (0 : Fin P) = 0 * 1
    grind
/-- The base. -/
theorem on_base : Cv.On dd (fv bxE) (fv byE) := by
  unfold Cv.On
  apply Fin.ext
  have : (fv bxE * fv bxE + fv byE * fv byE).val = (1 + dd * (fv bxE * fv bxE) * (fv byE * fv byE)).val := by kernel_rfl
  exact this
def bA : CP := ⟨fv bxE, fv byE, on_base⟩
theorem Rp.base : Rp baseP bA := by
  unfold Rp Tell baseP
  simp only [fv_E1]
  refine ⟨fun h => Cv.Fd.zero_ne_one (M := P) h.symm, ?_, ?_⟩
  · show fv bxE = fv bxE * 1
    generalize fv bxE = a
    grind
  · show fv byE = fv byE * 1
    generalize fv byE = a
    grind

/-! ### Made -/
theorem made_qP : ∀ n, ∃ A, Rp (qP addP n) A
  | 0 => ⟨_, Rp.id⟩
  | n + 1 => by
    obtain ⟨A, h⟩ := made_qP n
    exact ⟨_, h.add Rp.i⟩
theorem next_tells {any b : Bool} {p o : Pt} {A B : CP} (hp : Rp p A) (ho : Rp o B) : ∃ C, Rp (nextT addP dblP any b p o).2 C := by
  unfold nextT
  cases any <;> cases b
  · exact ⟨_, ho⟩
  · exact ⟨_, ho.add hp⟩
  · exact ⟨_, ho.dbl⟩
  · exact ⟨_, ho.dbl.add hp⟩
end Go.Proofs.YtkiaodihfofbnaaGreatDoor.X
namespace Go.Proofs.YtkiaodihfofbnaaGreatDoor.X
open Go Go.RowKit
open Go.Proofs.YtkiaodihfofbnaaGreatDoor.Cv (P dd okd smul smul_add)
set_option maxRecDepth 100000

theorem tm_tells (l : List Int) {p : Pt} {A : CP} (hp : Rp p A) : ∀ k, ∃ C, Rp (tm l p k).2 C
  | 0 => ⟨_, Rp.id⟩
  | k + 1 => by
    obtain ⟨C, h⟩ := tm_tells l hp k
    exact next_tells hp h
theorem madeP_tells (l : List Int) (n : Int) : ∃ A, Rp (madeP l n) A := by
  obtain ⟨A, ha⟩ := tm_tells l Rp.base 456
  obtain ⟨B, hb⟩ := made_qP (qd n)
  exact ⟨_, ha.add hb⟩

/-! ### The group -/
theorem cadd_zero (A : CP) : Cv.add okd A Cv.zero = A := by rw [Cv.add_comm, Cv.zero_add]
theorem smul_less (A : CP) (v m : Nat) : Cv.add okd (smul okd (v + m) A) (Cv.neg (smul okd m A)) = smul okd v A := by
  rw [smul_add, Cv.add_assoc, Cv.add_neg, cadd_zero]
theorem Rp.dbl_smul {p : Pt} {A : CP} {n : Nat} (h : Rp p (smul okd n A)) : Rp (dblP p) (smul okd (2 * n) A) := by
  have := h.dbl
  rw [← smul_add, ← Nat.two_mul] at this
  exact this

/-! ### The table -/
theorem tab_tells {p : Pt} {A : CP} (hp : Rp p A) : ∀ n, Rp (tabP idP p n).2 (smul okd n A) ∧ ∀ i, i < n → Rp ((tabP idP p n).1.getD i zeroPt) (smul okd i A)
  | 0 => ⟨Rp.id, fun i h => by omega⟩
  | n + 1 => by
    obtain ⟨h1, h2⟩ := tab_tells hp n
    refine ⟨h1.add hp, fun i hi => ?_⟩
    rw [tabP, List.getD_eq_getElem?_getD]
    rcases Nat.lt_or_ge i n with h | h
    · rw [List.getElem?_append_left (by rw [tabP_len]; exact h), ← List.getD_eq_getElem?_getD]
      exact h2 i h
    · have : i = n := by omega
      subst this
      rw [List.getElem?_append_right (by rw [tabP_len]; omega), tabP_len, Nat.sub_self]
      exact h1
theorem sameW_eq : ∀ i : Nat, i < 9 → ∀ j : Nat, j < 9 → sameW (i : Int) (j : Int) = if i = j then 1 else 0 := by decide
theorem selP_zero (p q : Pt) : selP 0 p q = p := by
  unfold selP selE; rfl
theorem selP_one (p q : Pt) : selP 1 p q = q := by
  unfold selP selE; rfl
theorem lookG_at (l : List Pt) (j : Nat) (hj : j < 9) : ∀ n, n ≤ 9 → j < n → lookG selP sameW l (j : Int) n = l.getD j zeroPt
  | 0, _, h => by omega
  | n + 1, hn, h => by
    rw [lookG, sameW_eq n (by omega) j hj]
    by_cases e : n = j
    · rw [if_pos e, selP_one, e]
    · rw [if_neg e, selP_zero, lookG_at l j hj n (by omega) (by omega)]
theorem look_tells {p : Pt} {A : CP} (hp : Rp p A) {j : Nat} (hj : j < 9) : Rp (lookP (tabP idP p 9).1 j) (smul okd j A) := by
  unfold lookP
  rw [lookG_at _ j hj 9 (Nat.le_refl _) hj]
  exact (tab_tells hp 9).2 j hj

/-! ### One digit -/
theorem step_tells {p : Pt} {A : CP} (hp : Rp p A) {acc : Pt} {V V' : Nat} (ha : Rp acc (smul okd V' A)) {v : Int} (hv : -8 ≤ v ∧ v ≤ 8) (h : (V : Int) = 16 * V' + v) :
    Rp (stepM addP dblP negP selP lookP (tabP idP p 9).1 acc (if decide (v < 0) then 1 else 0) v.natAbs) (smul okd V A) := by
  have h4 : Rp (dblP (dblP (dblP (dblP acc)))) (smul okd (16 * V') A) := by
    have := ha.dbl_smul.dbl_smul.dbl_smul.dbl_smul
    rw [show 2 * (2 * (2 * (2 * V'))) = 16 * V' by omega] at this
    exact this
  have hl := look_tells hp (j := v.natAbs) (by omega)
  unfold stepM
  by_cases hn : v < 0
  · rw [decide_eq_true hn, if_pos rfl, selP_one]
    have hs := h4.add hl.neg
    rw [show 16 * V' = V + v.natAbs by omega, smul_less] at hs
    exact hs
  · rw [decide_eq_false hn, if_neg (by decide), selP_zero]
    have hs := h4.add hl
    rw [← smul_add, show 16 * V' + v.natAbs = V by omega] at hs
    exact hs

/-! ### The number of bytes -/
/-- The number that the highest j bits are. -/
def nb (l : List Int) : Nat → Nat
  | 0 => 0
  | j + 1 => 2 * nb l j + (tbit l (447 - j)).toNat
theorem bitI_toNat (l : List Int) (m : Nat) : bitI l (m : Int) = ((tbit l m).toNat : Int) := by
  unfold bitI
  rw [Int.toNat_natCast]
  cases tbit l m <;> rfl
theorem nb_four (l : List Int) {i : Nat} (hi : i < 112) : (nb l (448 - 4 * i) : Int) = 16 * nb l (448 - 4 * (i + 1)) + win l (4 * i) := by
  have e : 448 - 4 * i = (448 - 4 * (i + 1)) + 1 + 1 + 1 + 1 := by omega
  rw [e]
  simp only [nb]
  unfold win
  rw [bitI_toNat, bitI_toNat, bitI_toNat, bitI_toNat]
  rw [show 447 - (448 - 4 * (i + 1)) = 4 * i + 3 by omega, show 447 - (448 - 4 * (i + 1) + 1) = 4 * i + 2 by omega, show 447 - (448 - 4 * (i + 1) + 1 + 1) = 4 * i + 1 by omega, show 447 - (448 - 4 * (i + 1) + 1 + 1 + 1) = 4 * i by omega]
  omega
/-- What is carried into a digit. -/
def cy (l : List Int) (i : Nat) : Int := (sgS (plainL l 112) i).2
theorem cy_range (l : List Int) {i : Nat} (hi : i ≤ 112) : cy l i = 0 ∨ cy l i = 1 := (sgS_small l i hi).1
theorem sgS_get (l : List Int) : ∀ n, n ≤ 112 → ∀ i, i < n → (sgS (plainL l 112) n).1.getD i 0 + 16 * cy l (i + 1) = win l (4 * i) + cy l i
  | 0, _, i, h => by omega
  | n + 1, hn, i, h => by
    have hlen := sgS_len (plainL l 112) n
    rw [sgS]
    simp only []
    rw [List.getD_eq_getElem?_getD]
    rcases Nat.lt_or_ge i n with h1 | h1
    · rw [List.getElem?_append_left (by rw [hlen]; exact h1), ← List.getD_eq_getElem?_getD]
      exact sgS_get l n (by omega) i h1
    · have e : i = n := by omega
      subst e
      rw [List.getElem?_append_right (by rw [hlen]; omega), hlen, Nat.sub_self]
      have hw := win_range l (4 * i)
      have hg := plainL_get l (show i < 112 by omega)
      have hc := cy_range l (i := i) (by omega)
      have hv : IntKind.i64.wrap ((plainL l 112).getD i 0 + (sgS (plainL l 112) i).2) = win l (4 * i) + cy l i := by
        rw [hg]
        show IntKind.i64.wrap (win l (4 * i) + cy l i) = _
        rw [wrap_in (by omega)]
      have hs := (step_small (v := win l (4 * i) + cy l i) (by omega)).2.2.2
      have hcy : cy l (i + 1) = cyW (win l (4 * i) + cy l i) := by
        show (sgS (plainL l 112) (i + 1)).2 = _
        rw [sgS]
        simp only [hv]
      rw [hcy, hv]
      show IntKind.i64.wrap (win l (4 * i) + cy l i - IntKind.i64.wrap (cyW (win l (4 * i) + cy l i) * 2 ^ 4)) + _ = _
      omega
theorem signed_get (l : List Int) {i : Nat} (hi : i < 112) : (signedL l).getD i 0 + 16 * cy l (i + 1) = win l (4 * i) + cy l i := by
  unfold signedL
  rw [List.getD_eq_getElem?_getD, List.getElem?_append_left (by rw [sgS_len]; exact hi), ← List.getD_eq_getElem?_getD]
  exact sgS_get l 112 (Nat.le_refl _) i hi
theorem signed_last (l : List Int) : (signedL l).getD 112 0 = cy l 112 := by
  unfold signedL
  rw [List.getD_eq_getElem?_getD, List.getElem?_append_right (by rw [sgS_len]; exact Nat.le_refl _), sgS_len]
  rfl
/-- What the accumulator has, behind so many digits. -/
def vv (l : List Int) (k : Nat) : Nat := match k with
  | 0 => 0
  | k + 1 => nb l (4 * k) + (cy l (112 - k)).toNat
theorem vv_step (l : List Int) {k : Nat} (hk : k < 113) : (vv l (k + 1) : Int) = 16 * vv l k + (signedL l).getD (112 - k) 0 := by
  cases k with
  | zero =>
    have hc := cy_range l (i := 112) (Nat.le_refl _)
    rw [Nat.sub_zero, signed_last]
    show ((nb l (4 * 0) + (cy l (112 - 0)).toNat : Nat) : Int) = 16 * ((0 : Nat) : Int) + cy l 112
    rw [Nat.sub_zero]
    show (((0 : Nat) + (cy l 112).toNat : Nat) : Int) = _
    rcases hc with h | h <;> rw [h] <;> rfl
  | succ k =>
    have hs := signed_get l (i := 112 - (k + 1)) (by omega)
    have h4 := nb_four l (i := 112 - (k + 1)) (by omega)
    rw [show 448 - 4 * (112 - (k + 1)) = 4 * (k + 1) by omega, show 448 - 4 * (112 - (k + 1) + 1) = 4 * k by omega] at h4
    rw [show 112 - (k + 1) + 1 = 112 - k by omega] at hs
    have hc := cy_range l (i := 112 - k) (by omega)
    have hc' := cy_range l (i := 112 - (k + 1)) (by omega)
    show ((nb l (4 * (k + 1)) + (cy l (112 - (k + 1))).toNat : Nat) : Int) = 16 * ((nb l (4 * k) + (cy l (112 - k)).toNat : Nat) : Int) + _
    omega
theorem mul_tells {l : List Int} {p : Pt} {A : CP} (hp : Rp p A) : Rp (mulP l p) (smul okd (nb l 448) A) := by
  have key : ∀ k, k ≤ 113 → Rp (accM (signedL l) (tabP idP p 9).1 (List.range k)) (smul okd (vv l k) A) := by
    intro k
    induction k with
    | zero => intro _; exact Rp.id
    | succ k ih =>
      intro hk
      have hacc : accM (signedL l) (tabP idP p 9).1 (List.range (k + 1)) = stepM addP dblP negP selP lookP (tabP idP p 9).1 (accM (signedL l) (tabP idP p 9).1 (List.range k)) (if decide ((signedL l).getD (112 - k) 0 < 0) then 1 else 0) ((signedL l).getD (112 - k) 0).natAbs := by
        unfold accM; rw [List.range_succ, List.foldl_append]; rfl
      rw [hacc]
      exact step_tells hp (ih (by omega)) (signedL_small l (112 - k)) (vv_step l (by omega))
  have h := key 113 (Nat.le_refl _)
  have e : vv l 113 = nb l 448 := by
    show nb l (4 * 112) + (cy l (112 - 112)).toNat = nb l 448
    rfl
  rw [e] at h
  exact h
end Go.Proofs.YtkiaodihfofbnaaGreatDoor.X
