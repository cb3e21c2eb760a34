/- The law NumberOwn returns true whatever the input: T0 of its proof; no condition. (Joined by wip/shake.py.) -/
import Derived.Test.YtdaehflffecllaaMNumberOwnWMore
namespace Go.Proofs.Ytdaehflffecllaa.T
open Go.RowKit Go.Proofs.YtdaehflffecllaaW.PrintWords
/-- With enough rounds it answers r. -/
def Evn {α : Type} (g : Nat → Option α) (r : α) : Prop := ∃ K, ∀ k, K ≤ k → g k = some r
theorem Evn.of {α : Type} {g : Nat → Option α} {r : α} (h : ∀ k, g k = some r) : Evn g r := ⟨0, fun k _ => h k⟩
theorem Evn.congr {α : Type} {g h : Nat → Option α} {r : α} (e : ∀ k, g k = h k) (hh : Evn h r) : Evn g r := by
  obtain ⟨K, hK⟩ := hh
  exact ⟨K, fun k hk => (e k).trans (hK k hk)⟩
theorem Evn.succ {α : Type} {g h : Nat → Option α} {r : α} (e : ∀ k, g (k + 1) = h k) (hh : Evn h r) : Evn g r := by
  obtain ⟨K, hK⟩ := hh
  refine ⟨K + 1, fun k hk => ?_⟩
  obtain ⟨k, rfl⟩ : ∃ m, k = m + 1 := ⟨k - 1, by omega⟩
  rw [e, hK k (by omega)]
theorem Evn.bind {α β : Type} {g : Nat → Option α} {h : Nat → α → Option β} {a : α} {r : β} (hg : Evn g a) (hh : Evn (fun k => h k a) r) : Evn (fun k => (g k).bind (h k)) r := by
  obtain ⟨K, hK⟩ := hg
  obtain ⟨L, hL⟩ := hh
  refine ⟨max K L, fun k hk => ?_⟩
  simp only [hK k (by omega), Option.bind_some]
  exact hL k (by omega)
theorem Evn.get {α : Type} {g : Nat → Option α} {r : α} (h : Evn g r) : ∃ k, g k = some r := by
  obtain ⟨K, hK⟩ := h
  exact ⟨K, hK K (Nat.le_refl _)⟩
theorem w64 (x : Int) (h0 : -9223372036854775808 ≤ x) (h1 : x ≤ 9223372036854775807) : wrap64 x = x := by unfold wrap64; omega
theorem rd_cast (l : List Int) (i : Nat) : rd l (i : Int) = l.getD i 0 := by simp [rd]
theorem rd_beyond (l : List Int) (i : Nat) (h : l.length ≤ i) : rd l (i : Int) = 0 := by
  rw [rd_cast, List.getD_eq_getElem?_getD, List.getElem?_eq_none h]; rfl
theorem rd_get (l : List Int) (i : Nat) (h : i < l.length) : rd l (i : Int) = l[i] := by
  rw [rd_cast, List.getD_eq_getElem?_getD, List.getElem?_eq_getElem h]; rfl
theorem rd_set (l : List Int) (i j : Nat) (v : Int) (h : i < l.length) : rd (l.set i v) (j : Int) = if i = j then v else rd l (j : Int) := by
  rw [rd_cast, rd_cast, List.getD_eq_getElem?_getD, List.getD_eq_getElem?_getD, List.getElem?_set]
  split
  · rename_i e; subst e; first | rfl | (rw [if_pos h]; rfl)
  · rfl
theorem take_rd (l : List Int) (m : Nat) (h : m < l.length) : l.take (m + 1) = l.take m ++ [rd l (m : Int)] := by
  rw [List.take_succ_eq_append_getElem h, rd_get l m h]
theorem take_set (l : List Int) (i : Nat) (v : Int) (h : i < l.length) : (l.set i v).take (i + 1) = l.take i ++ [v] := by
  rw [take_rd _ _ (by rw [List.length_set]; exact h), rd_set l i i v h, if_pos rfl, List.take_set_of_le (Nat.le_refl i)]
/-- A list without noughts at its end. -/
def cutL (l : List Int) : List Int := (l.reverse.dropWhile (fun x => x == 0)).reverse
theorem cutL_zero (l : List Int) : cutL (l ++ [0]) = cutL l := by simp [cutL]
theorem cutL_one (l : List Int) (x : Int) (h : ¬ x = 0) : cutL (l ++ [x]) = l ++ [x] := by simp [cutL, h]
/-- The number of digits, the lowest one first. -/
def vl (B : Int) : List Int → Int
  | [] => 0
  | x :: xs => x + B * vl B xs
/-- Digits to a base. -/
def dg (B : Int) (l : List Int) : Prop := ∀ x ∈ l, 0 ≤ x ∧ x < B
section
variable {B : Int}
theorem dg_nil : dg B [] := fun _ h => by cases h
theorem dg_cons {x : Int} {l : List Int} (h : dg B (x :: l)) : (0 ≤ x ∧ x < B) ∧ dg B l := ⟨h x List.mem_cons_self, fun y hy => h y (List.mem_cons_of_mem _ hy)⟩
theorem dg_append {l m : List Int} (hl : dg B l) (hm : dg B m) : dg B (l ++ m) := fun x hx => (List.mem_append.1 hx).elim (hl x) (hm x)
theorem dg_one {x : Int} (h0 : 0 ≤ x) (h1 : x < B) : dg B [x] := fun y hy => by rw [List.mem_singleton.1 hy]; exact ⟨h0, h1⟩
theorem dg_take {l : List Int} (h : dg B l) (i : Nat) : dg B (l.take i) := fun x hx => h x (List.mem_of_mem_take hx)
theorem dg_replicate (hB : 0 < B) (n : Nat) : dg B (List.replicate n 0) := fun x hx => by rw [(List.mem_replicate.1 hx).2]; exact ⟨Int.le_refl 0, hB⟩
theorem rd_bd {l : List Int} (h : dg B l) (hB : 0 < B) (i : Nat) : 0 ≤ rd l (i : Int) ∧ rd l (i : Int) < B := by
  by_cases hi : i < l.length
  · rw [rd_get l i hi]; exact h _ (List.getElem_mem hi)
  · rw [rd_beyond l i (by omega)]; exact ⟨Int.le_refl 0, hB⟩
theorem vl_append (l m : List Int) : vl B (l ++ m) = vl B l + B ^ l.length * vl B m := by
  induction l with
  | nil => simp [vl]
  | cons x xs ih => simp only [List.cons_append, vl, ih, List.length_cons, Int.pow_succ]; grind
theorem vl_one (x : Int) : vl B [x] = x := by simp [vl]
theorem vl_zeros (n : Nat) : vl B (List.replicate n 0) = 0 := by
  induction n with
  | zero => rfl
  | succ n ih => rw [List.replicate_succ, vl, ih]; omega
theorem vl_nonneg {l : List Int} (h : dg B l) (hB : 0 < B) : 0 ≤ vl B l := by
  induction l with
  | nil => exact Int.le_refl 0
  | cons x xs ih =>
    have h2 := dg_cons h
    have := Int.mul_nonneg (Int.le_of_lt hB) (ih h2.2)
    simp only [vl]; omega
theorem vl_lt {l : List Int} (h : dg B l) (hB : 0 < B) : vl B l < B ^ l.length := by
  induction l with
  | nil => simp [vl]
  | cons x xs ih =>
    have h2 := dg_cons h
    have h3 := ih h2.2
    have h4 : B * (vl B xs + 1) ≤ B * B ^ xs.length := Int.mul_le_mul_of_nonneg_left (by omega) (Int.le_of_lt hB)
    rw [Int.mul_add] at h4
    simp only [vl, List.length_cons, Int.pow_succ, Int.mul_comm (B ^ xs.length) B]; omega
theorem vl_take_succ (l : List Int) (i : Nat) : vl B (l.take (i + 1)) = vl B (l.take i) + B ^ i * rd l (i : Int) := by
  by_cases h : i < l.length
  · rw [take_rd l i h, vl_append, vl_one, List.length_take, Nat.min_eq_left (by omega)]
  · rw [rd_beyond l i (by omega), List.take_of_length_le (by omega), List.take_of_length_le (by omega)]; omega
theorem vl_drop (l : List Int) (i : Nat) : vl B (l.drop i) = rd l (i : Int) + B * vl B (l.drop (i + 1)) := by
  by_cases h : i < l.length
  · rw [List.drop_eq_getElem_cons h, vl, rd_get l i h]
  · rw [rd_beyond l i (by omega), List.drop_eq_nil_of_le (by omega), List.drop_eq_nil_of_le (by omega)]; simp [vl]
theorem vl_split (l : List Int) (i : Nat) : vl B l = vl B (l.take i) + B ^ i * vl B (l.drop i) := by
  by_cases h : i ≤ l.length
  · have e : l = l.take i ++ l.drop i := (List.take_append_drop i l).symm
    conv => lhs; rw [e]
    rw [vl_append, List.length_take, Nat.min_eq_left h]
  · rw [List.take_of_length_le (by omega), List.drop_eq_nil_of_le (by omega)]; simp [vl]
theorem pow_pos (hB : 0 < B) (i : Nat) : 0 < B ^ i := Int.pow_pos hB
theorem pow_le (hB : 0 < B) {i j : Nat} (h : i ≤ j) : B ^ i ≤ B ^ j := by
  obtain ⟨d, rfl⟩ := Nat.exists_eq_add_of_le h
  rw [Int.pow_add]
  have h1 := pow_pos hB i
  have h2 := pow_pos hB d
  have := Int.mul_le_mul_of_nonneg_left (show 1 ≤ B ^ d by omega) (Int.le_of_lt h1)
  omega
theorem vl_take_bd {l : List Int} (h : dg B l) (hB : 0 < B) (i : Nat) : 0 ≤ vl B (l.take i) ∧ vl B (l.take i) < B ^ i := by
  refine ⟨vl_nonneg (dg_take h i) hB, ?_⟩
  have h1 := vl_lt (dg_take h i) hB
  have h2 : (l.take i).length ≤ i := List.length_take_le i l
  have := pow_le hB h2
  omega
theorem div_of {a b q r : Int} (h : a = r + b * q) (h0 : 0 ≤ r) (h1 : r < b) : a / b = q := by
  rw [h, Int.add_mul_ediv_left _ _ (by omega), Int.ediv_eq_zero_of_lt h0 h1]; omega
theorem mod_of {a b q r : Int} (h : a = r + b * q) (h0 : 0 ≤ r) (h1 : r < b) : a % b = r := by
  rw [h, Int.add_mul_emod_self_left, Int.emod_eq_of_lt h0 h1]
theorem vl_div {l : List Int} (h : dg B l) (hB : 0 < B) (i : Nat) : vl B l / B ^ i = vl B (l.drop i) := div_of (vl_split l i) (vl_take_bd h hB i).1 (vl_take_bd h hB i).2
theorem vl_mod {l : List Int} (h : dg B l) (hB : 0 < B) (i : Nat) : vl B l % B ^ i = vl B (l.take i) := mod_of (vl_split l i) (vl_take_bd h hB i).1 (vl_take_bd h hB i).2
/-- A digit out of the value. -/
theorem rd_vl {l : List Int} (h : dg B l) (hB : 0 < B) (i : Nat) : rd l (i : Int) = vl B l / B ^ i % B := by
  rw [vl_div h hB]
  exact (mod_of (vl_drop l i) (rd_bd h hB i).1 (rd_bd h hB i).2).symm
theorem vl_set_take (l : List Int) (i : Nat) (v : Int) (h : i < l.length) : vl B ((l.set i v).take (i + 1)) = vl B (l.take i) + B ^ i * v := by
  rw [take_set l i v h, vl_append, vl_one, List.length_take, Nat.min_eq_left (by omega)]
theorem dg_set_take {l : List Int} {i : Nat} {v : Int} (hd : dg B (l.take i)) (h : i < l.length) (h0 : 0 ≤ v) (h1 : v < B) : dg B ((l.set i v).take (i + 1)) := by
  rw [take_set l i v h]; exact dg_append hd (dg_one h0 h1)
theorem vl_set (l : List Int) (i : Nat) (v : Int) (h : i < l.length) : vl B (l.set i v) = vl B l + B ^ i * (v - rd l (i : Int)) := by
  rw [vl_split (l.set i v) (i + 1), vl_set_take l i v h, vl_split l (i + 1), vl_take_succ, List.drop_set_of_lt (by omega)]
  grind
theorem dg_set {l : List Int} {i : Nat} {v : Int} (hd : dg B l) (h0 : 0 ≤ v) (h1 : v < B) : dg B (l.set i v) := fun x hx => by
  rcases List.mem_or_eq_of_mem_set hx with hx | hx
  · exact hd x hx
  · rw [hx]; exact ⟨h0, h1⟩
end
def dgN (b : Nat) (n : Nat) : List Int := if _h : 2 ≤ b ∧ 0 < n then ((n % b : Nat) : Int) :: dgN b (n / b) else []
termination_by n
decreasing_by exact Nat.div_lt_self _h.2 (by omega)
/-- The digits of a number, to a base, without noughts at their end. -/
def dgs (B n : Int) : List Int := dgN B.toNat n.toNat
theorem dgs_zero (B : Int) : dgs B 0 = [] := by unfold dgs; rw [dgN]; simp
theorem dgs_pos {B n : Int} (hB : 2 ≤ B) (hn : 0 < n) : dgs B n = (n % B) :: dgs B (n / B) := by
  unfold dgs
  conv => lhs; rw [dgN]
  rw [dif_pos (by omega)]
  congr 1
  · rw [Int.natCast_emod, Int.toNat_of_nonneg (by omega), Int.toNat_of_nonneg (by omega)]
  · congr 1
    have hq : 0 ≤ n / B := Int.ediv_nonneg (by omega) (by omega)
    have : ((n / B).toNat : Int) = ((n.toNat / B.toNat : Nat) : Int) := by
      rw [Int.natCast_ediv, Int.toNat_of_nonneg hq, Int.toNat_of_nonneg (show 0 ≤ n by omega), Int.toNat_of_nonneg (show 0 ≤ B by omega)]
    exact Int.ofNat.inj this.symm
section
variable {B : Int}
theorem ind_dgs (hB : 2 ≤ B) {P : Int → Prop} (h0 : P 0) (hs : ∀ n, 0 < n → P (n / B) → P n) : ∀ n, 0 ≤ n → P n := by
  have key : ∀ (m : Nat) (n : Int), n.toNat = m → 0 ≤ n → P n := by
    intro m
    induction m using Nat.strongRecOn with
    | _ m ih =>
      intro n hm hn
      by_cases hz : n = 0
      · rw [hz]; exact h0
      · have h1 : n / B < n := Int.ediv_lt_of_lt_mul (by omega) (by have := Int.mul_le_mul_of_nonneg_left hB (show 0 ≤ n by omega); omega)
        have h2 : 0 ≤ n / B := Int.ediv_nonneg hn (by omega)
        exact hs n (by omega) (ih (n / B).toNat (by omega) (n / B) rfl h2)
  exact fun n hn => key _ n rfl hn
theorem dgs_dg (hB : 2 ≤ B) (n : Int) (hn : 0 ≤ n) : dg B (dgs B n) := by
  refine ind_dgs (P := fun n => dg B (dgs B n)) hB (by rw [dgs_zero]; exact dg_nil) (fun n h ih => ?_) n hn
  rw [dgs_pos hB h]
  intro x hx
  rcases List.mem_cons.1 hx with hx | hx
  · rw [hx]; exact ⟨Int.emod_nonneg _ (by omega), Int.emod_lt_of_pos _ (by omega)⟩
  · exact ih x hx
theorem vl_dgs (hB : 2 ≤ B) (n : Int) (hn : 0 ≤ n) : vl B (dgs B n) = n := by
  refine ind_dgs (P := fun n => vl B (dgs B n) = n) hB (by rw [dgs_zero]; rfl) (fun n h ih => ?_) n hn
  rw [dgs_pos hB h, vl, ih]
  exact Int.emod_add_mul_ediv n B
theorem dgs_nil_iff (hB : 2 ≤ B) (n : Int) (hn : 0 ≤ n) : dgs B n = [] ↔ n = 0 := by
  constructor
  · intro h
    have := vl_dgs hB n hn
    rw [h] at this; exact this.symm
  · intro h; rw [h, dgs_zero]
/-- What has no nought at its end is the digits of its value. -/
theorem dgs_vl (hB : 2 ≤ B) (l : List Int) (h : dg B l) (hl : ∀ (m : List Int) (x : Int), l = m ++ [x] → ¬ x = 0) : dgs B (vl B l) = l := by
  induction l with
  | nil => exact dgs_zero B
  | cons x xs ih =>
    have h2 := dg_cons h
    have hxs : dgs B (vl B xs) = xs := ih h2.2 (fun m y e => hl (x :: m) y (by rw [e]; rfl))
    have hnn := vl_nonneg h2.2 (by omega)
    have hp : 0 < vl B (x :: xs) := by
      by_cases hz : xs = []
      · subst hz
        have := hl [] x rfl
        simp only [vl]; omega
      · have h3 : ¬ vl B xs = 0 := fun e => by rw [e, dgs_zero] at hxs; exact hz hxs.symm
        have := Int.mul_pos (show 0 < B by omega) (show 0 < vl B xs by omega)
        simp only [vl]; omega
    rw [dgs_pos hB hp]
    have e : vl B (x :: xs) = x + B * vl B xs := rfl
    rw [mod_of e h2.1.1 h2.1.2, div_of e h2.1.1 h2.1.2, hxs]
theorem snoc_cases (l : List Int) : l = [] ∨ ∃ m x, l = m ++ [x] := by
  rcases List.eq_nil_or_concat l with h | ⟨m, x, h⟩
  · exact .inl h
  · exact .inr ⟨m, x, by rw [h]; simp⟩
/-- Cutting is taking the digits of the value. -/
theorem cut_dgs (hB : 2 ≤ B) (l : List Int) (h : dg B l) : cutL l = dgs B (vl B l) := by
  have key : ∀ (n : Nat) (l : List Int), l.length = n → dg B l → cutL l = dgs B (vl B l) := by
    intro n
    induction n with
    | zero => intro l hl _; rw [List.eq_nil_of_length_eq_zero hl]; exact (dgs_zero B).symm
    | succ n ih =>
      intro l hl h
      rcases snoc_cases l with rfl | ⟨m, x, rfl⟩
      · simp at hl
      · by_cases hx : x = 0
        · subst hx
          rw [cutL_zero, ih m (by simpa using hl) (fun y hy => h y (List.mem_append_left _ hy)), vl_append, vl_one]
          simp
        · rw [cutL_one m x hx]
          refine (dgs_vl hB _ h (fun m' y e => ?_)).symm
          have := List.append_inj_right' e rfl
          injection this with this _
          rw [← this]; exact hx
  exact key _ l rfl h
theorem cut_eq (hB : 2 ≤ B) {l : List Int} {n : Int} (h : dg B l) (hn : vl B l = n) : cutL l = dgs B n := by rw [cut_dgs hB l h, hn]
theorem dgs_eq (hB : 2 ≤ B) {l : List Int} {n : Int} (h : dg B l) (hl : cutL l = l) (hn : vl B l = n) : dgs B n = l := by rw [← cut_eq hB h hn, hl]
theorem cut_of_dgs (hB : 2 ≤ B) (n : Int) (hn : 0 ≤ n) : cutL (dgs B n) = dgs B n := cut_eq hB (dgs_dg hB n hn) (vl_dgs hB n hn)
theorem dgs_last (hB : 2 ≤ B) (n : Int) (hn : 0 ≤ n) (m : List Int) (x : Int) (e : dgs B n = m ++ [x]) : ¬ x = 0 := by
  intro hx
  have h1 := cut_of_dgs hB n hn
  rw [e, hx, cutL_zero] at h1
  have h2 : (cutL m).length ≤ m.length := by
    unfold cutL
    rw [List.length_reverse]
    have := (List.dropWhile_sublist (l := m.reverse) (fun x => x == 0)).length_le
    rw [List.length_reverse] at this
    exact this
  have h3 := congrArg List.length h1
  simp at h3
  omega
/-- How many digits there are. -/
theorem dgs_len_le (hB : 2 ≤ B) (n : Int) (hn : 0 ≤ n) (m : Nat) (h : n < B ^ m) : (dgs B n).length ≤ m := by
  induction m generalizing n with
  | zero =>
    have : n = 0 := by simp at h; omega
    rw [this, dgs_zero]; exact Nat.le_refl _
  | succ m ih =>
    by_cases hz : n = 0
    · rw [hz, dgs_zero]; exact Nat.zero_le _
    · rw [dgs_pos hB (by omega), List.length_cons]
      have := ih (n / B) (Int.ediv_nonneg hn (by omega)) (Int.ediv_lt_of_lt_mul (by omega) (by rw [Int.pow_succ] at h; exact h))
      omega
end
end Go.Proofs.Ytdaehflffecllaa.T
