/- The law ScalarClamps returns true whatever the input: T0 of its proof; no condition. (Joined by wip/shake.py.) -/
import Derived.Test.YtdaehflffecllaaMScalarClampsWMore
namespace Go.Proofs.Ytdaehflffecllaa.T
open Go.RowKit Go.Proofs.YtdaehflffecllaaW.PrintWords
/-- With enough rounds it answers r. -/
def Evn {α : Type} (g : Nat → Option α) (r : α) : Prop := ∃ K, ∀ k, K ≤ k → g k = some r
theorem Evn.of {α : Type} {g : Nat → Option α} {r : α} (h : ∀ k, g k = some r) : Evn g r := ⟨0, fun k _ => h k⟩
theorem Evn.congr {α : Type} {g h : Nat → Option α} {r : α} (e : ∀ k, g k = h k) (hh : Evn h r) : Evn g r := by
  obtain ⟨K, hK⟩ := hh
  exact ⟨K, fun k hk => (e k).trans (hK k hk)⟩
theorem Evn.succ {α : Type} {g h : Nat → Option α} {r : α} (e : ∀ k, g (k + 1) = h k) (hh : Evn h r) : Evn g r := by
  obtain ⟨K, hK⟩ := hh
  refine ⟨K + 1, fun k hk => ?_⟩
  obtain ⟨k, rfl⟩ : ∃ m, k = m + 1 := ⟨k - 1, by omega⟩
  rw [e, hK k (by omega)]
theorem Evn.bind {α β : Type} {g : Nat → Option α} {h : Nat → α → Option β} {a : α} {r : β} (hg : Evn g a) (hh : Evn (fun k => h k a) r) : Evn (fun k => (g k).bind (h k)) r := by
  obtain ⟨K, hK⟩ := hg
  obtain ⟨L, hL⟩ := hh
  refine ⟨max K L, fun k hk => ?_⟩
  simp only [hK k (by omega), Option.bind_some]
  exact hL k (by omega)
theorem Evn.get {α : Type} {g : Nat → Option α} {r : α} (h : Evn g r) : ∃ k, g k = some r := by
  obtain ⟨K, hK⟩ := h
  exact ⟨K, hK K (Nat.le_refl _)⟩
theorem w64 (x : Int) (h0 : -9223372036854775808 ≤ x) (h1 : x ≤ 9223372036854775807) : wrap64 x = x := by unfold wrap64; omega
theorem rd_cast (l : List Int) (i : Nat) : rd l (i : Int) = l.getD i 0 := by simp [rd]
theorem rd_beyond (l : List Int) (i : Nat) (h : l.length ≤ i) : rd l (i : Int) = 0 := by
  rw [rd_cast, List.getD_eq_getElem?_getD, List.getElem?_eq_none h]; rfl
theorem rd_get (l : List Int) (i : Nat) (h : i < l.length) : rd l (i : Int) = l[i] := by
  rw [rd_cast, List.getD_eq_getElem?_getD, List.getElem?_eq_getElem h]; rfl
theorem rd_set (l : List Int) (i j : Nat) (v : Int) (h : i < l.length) : rd (l.set i v) (j : Int) = if i = j then v else rd l (j : Int) := by
  rw [rd_cast, rd_cast, List.getD_eq_getElem?_getD, List.getD_eq_getElem?_getD, List.getElem?_set]
  split
  · rename_i e; subst e; first | rfl | (rw [if_pos h]; rfl)
  · rfl
theorem take_rd (l : List Int) (m : Nat) (h : m < l.length) : l.take (m + 1) = l.take m ++ [rd l (m : Int)] := by
  rw [List.take_succ_eq_append_getElem h, rd_get l m h]
/-- A list without noughts at its end. -/
def cutL (l : List Int) : List Int := (l.reverse.dropWhile (fun x => x == 0)).reverse
theorem cutL_zero (l : List Int) : cutL (l ++ [0]) = cutL l := by simp [cutL]
theorem cutL_one (l : List Int) (x : Int) (h : ¬ x = 0) : cutL (l ++ [x]) = l ++ [x] := by simp [cutL, h]
/-- The number of digits, the lowest one first. -/
def vl (B : Int) : List Int → Int
  | [] => 0
  | x :: xs => x + B * vl B xs
/-- Digits to a base. -/
def dg (B : Int) (l : List Int) : Prop := ∀ x ∈ l, 0 ≤ x ∧ x < B
section
variable {B : Int}
theorem dg_cons {x : Int} {l : List Int} (h : dg B (x :: l)) : (0 ≤ x ∧ x < B) ∧ dg B l := ⟨h x List.mem_cons_self, fun y hy => h y (List.mem_cons_of_mem _ hy)⟩
theorem dg_take {l : List Int} (h : dg B l) (i : Nat) : dg B (l.take i) := fun x hx => h x (List.mem_of_mem_take hx)
theorem rd_bd {l : List Int} (h : dg B l) (hB : 0 < B) (i : Nat) : 0 ≤ rd l (i : Int) ∧ rd l (i : Int) < B := by
  by_cases hi : i < l.length
  · rw [rd_get l i hi]; exact h _ (List.getElem_mem hi)
  · rw [rd_beyond l i (by omega)]; exact ⟨Int.le_refl 0, hB⟩
theorem vl_append (l m : List Int) : vl B (l ++ m) = vl B l + B ^ l.length * vl B m := by
  induction l with
  | nil => simp [vl]
  | cons x xs ih => simp only [List.cons_append, vl, ih, List.length_cons, Int.pow_succ]; grind
theorem vl_one (x : Int) : vl B [x] = x := by simp [vl]
theorem vl_nonneg {l : List Int} (h : dg B l) (hB : 0 < B) : 0 ≤ vl B l := by
  induction l with
  | nil => exact Int.le_refl 0
  | cons x xs ih =>
    have h2 := dg_cons h
    have := Int.mul_nonneg (Int.le_of_lt hB) (ih h2.2)
    simp only [vl]; omega
theorem vl_lt {l : List Int} (h : dg B l) (hB : 0 < B) : vl B l < B ^ l.length := by
  induction l with
  | nil => simp [vl]
  | cons x xs ih =>
    have h2 := dg_cons h
    have h3 := ih h2.2
    have h4 : B * (vl B xs + 1) ≤ B * B ^ xs.length := Int.mul_le_mul_of_nonneg_left (by omega) (Int.le_of_lt hB)
    rw [Int.mul_add] at h4
    simp only [vl, List.length_cons, Int.pow_succ, Int.mul_comm (B ^ xs.length) B]; omega
theorem vl_take_succ (l : List Int) (i : Nat) : vl B (l.take (i + 1)) = vl B (l.take i) + B ^ i * rd l (i : Int) := by
  by_cases h : i < l.length
  · rw [take_rd l i h, vl_append, vl_one, List.length_take, Nat.min_eq_left (by omega)]
  · rw [rd_beyond l i (by omega), List.take_of_length_le (by omega), List.take_of_length_le (by omega)]; omega
theorem vl_drop (l : List Int) (i : Nat) : vl B (l.drop i) = rd l (i : Int) + B * vl B (l.drop (i + 1)) := by
  by_cases h : i < l.length
  · rw [List.drop_eq_getElem_cons h, vl, rd_get l i h]
  · rw [rd_beyond l i (by omega), List.drop_eq_nil_of_le (by omega), List.drop_eq_nil_of_le (by omega)]; simp [vl]
theorem vl_split (l : List Int) (i : Nat) : vl B l = vl B (l.take i) + B ^ i * vl B (l.drop i) := by
  by_cases h : i ≤ l.length
  · have e : l = l.take i ++ l.drop i := (List.take_append_drop i l).symm
    conv => lhs; rw [e]
    rw [vl_append, List.length_take, Nat.min_eq_left h]
  · rw [List.take_of_length_le (by omega), List.drop_eq_nil_of_le (by omega)]; simp [vl]
theorem pow_pos (hB : 0 < B) (i : Nat) : 0 < B ^ i := Int.pow_pos hB
theorem pow_le (hB : 0 < B) {i j : Nat} (h : i ≤ j) : B ^ i ≤ B ^ j := by
  obtain ⟨d, rfl⟩ := Nat.exists_eq_add_of_le h
  rw [Int.pow_add]
  have h1 := pow_pos hB i
  have h2 := pow_pos hB d
  have := Int.mul_le_mul_of_nonneg_left (show 1 ≤ B ^ d by omega) (Int.le_of_lt h1)
  omega
theorem vl_take_bd {l : List Int} (h : dg B l) (hB : 0 < B) (i : Nat) : 0 ≤ vl B (l.take i) ∧ vl B (l.take i) < B ^ i := by
  refine ⟨vl_nonneg (dg_take h i) hB, ?_⟩
  have h1 := vl_lt (dg_take h i) hB
  have h2 : (l.take i).length ≤ i := List.length_take_le i l
  have := pow_le hB h2
  omega
theorem div_of {a b q r : Int} (h : a = r + b * q) (h0 : 0 ≤ r) (h1 : r < b) : a / b = q := by
  rw [h, Int.add_mul_ediv_left _ _ (by omega), Int.ediv_eq_zero_of_lt h0 h1]; omega
theorem mod_of {a b q r : Int} (h : a = r + b * q) (h0 : 0 ≤ r) (h1 : r < b) : a % b = r := by
  rw [h, Int.add_mul_emod_self_left, Int.emod_eq_of_lt h0 h1]
theorem vl_div {l : List Int} (h : dg B l) (hB : 0 < B) (i : Nat) : vl B l / B ^ i = vl B (l.drop i) := div_of (vl_split l i) (vl_take_bd h hB i).1 (vl_take_bd h hB i).2
/-- A digit out of the value. -/
theorem rd_vl {l : List Int} (h : dg B l) (hB : 0 < B) (i : Nat) : rd l (i : Int) = vl B l / B ^ i % B := by
  rw [vl_div h hB]
  exact (mod_of (vl_drop l i) (rd_bd h hB i).1 (rd_bd h hB i).2).symm
theorem dg_set {l : List Int} {i : Nat} {v : Int} (hd : dg B l) (h0 : 0 ≤ v) (h1 : v < B) : dg B (l.set i v) := fun x hx => by
  rcases List.mem_or_eq_of_mem_set hx with hx | hx
  · exact hd x hx
  · rw [hx]; exact ⟨h0, h1⟩
end
end Go.Proofs.Ytdaehflffecllaa.T
