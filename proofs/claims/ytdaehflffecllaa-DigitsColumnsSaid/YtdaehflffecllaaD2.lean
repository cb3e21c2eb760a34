/- What digits.Plain and digits.Columns come to; the comparison of two lists; the chapter's examples. -/
import Derived.Test.YtdaehflffecllaaNx12
import Derived.Test.YtdaehflffecllaaNx13
import Derived.Test.YtdaehflffecllaaNx15
import Derived.Test.YtdaehflffecllaaD1
namespace Go.Proofs.Ytdaehflffecllaa.A
open Go.RowKit Go.Proofs.YtdaehflffecllaaW.PrintWords Go.Proofs.Ytdaehflffecllaa.N Go.Proofs.Ytdaehflffecllaa.T

theorem bsome' {α β : Type} (a : α) (f : α → Option β) : (some a).bind f = f a := by cases h : f a <;> simp [h]
def rowL (g : Nat → Int) (n : Nat) : List Int := (List.range n).map g
theorem rowL_len (g : Nat → Int) (n : Nat) : (rowL g n).length = n := by simp [rowL]
theorem rowL_succ (g : Nat → Int) (n : Nat) : rowL g (n + 1) = rowL g n ++ [g n] := by simp [rowL, List.range_succ]
theorem rowL_rd (g : Nat → Int) (n i : Nat) (h : i < n) : rd (rowL g n) (i : Int) = g i := by
  rw [rd_get _ _ (by rw [rowL_len]; exact h)]; simp [rowL]
theorem rowL_ext (l : List Int) (g : Nat → Int) (n : Nat) (hl : l.length = n) (h : ∀ i, i < n → rd l (i : Int) = g i) : rowL g n = l := by
  apply List.ext_getElem (by rw [rowL_len, hl])
  intro i h1 h2
  have := h i (by omega)
  rw [rd_get _ _ h2] at this
  simp [rowL, this]
/-- The digits of so many bits, and the columns. -/
def plainL (N : Int) (b n : Nat) : List Int := rowL (fun i => win N (i * b) 1 b) n
def colL (N : Int) (b n : Nat) : List Int := rowL (fun i => win N i n b) n

theorem cnt_le (n b : Nat) (hb : 1 ≤ b) (hn : n ≤ 64) : cnt n b ≤ 512 := by
  unfold cnt
  have h := Nat.div_mul_le_self (8 * n + b - 1) b
  have h3 : (8 * n + 1) * b = 8 * n * b + b := Nat.succ_mul _ _
  have h4 : 8 * n * 1 ≤ 8 * n * b := Nat.mul_le_mul_left _ hb
  have h5 : (8 * n + b - 1) / b < 8 * n + 1 := (Nat.div_lt_iff_lt_mul (by omega)).2 (by omega)
  omega
theorem plain_loop (l : List Int) (h : dg 256 l) (hl : l.length ≤ 64) (b : Nat) (hb8 : b ≤ 8) (n : Nat) (hn : n ≤ 1048576) : ∀ (d i : Nat), i + d = n →
    Evn (fun k => digits_Plain.l0 k (b : Int) l (rowL (fun i => win (vl 256 l) (i * b) 1 b) i) (n : Int) (i : Int)) (plainL (vl 256 l) b n, 0) := by
  intro d
  induction d with
  | zero =>
    intro i hi
    obtain rfl : i = n := by omega
    exact Evn.succ (h := fun _ => some (plainL (vl 256 l) b i, 0)) (fun k => by rw [digits_Plain.l0, if_neg (by omega)]; rfl) (Evn.of fun _ => rfl)
  | succ d ih =>
    intro i hi
    have hm : i * b ≤ 1048576 * 8 := Nat.mul_le_mul (by omega) hb8
    have hmi : (i : Int) * (b : Int) = ((i * b : Nat) : Int) := (Int.natCast_mul i b).symm
    have e := window_ev l h (by omega) (i * b) 1 b (by omega) (by omega) (by omega)
    rw [show ((1 : Nat) : Int) = 1 from rfl] at e
    refine Evn.succ (fun k => by rw [digits_Plain.l0, if_pos (by omega), hmi, w64 ((i * b : Nat) : Int) (by omega) (by omega)]) (Evn.bind e ?_)
    refine Evn.congr (fun k => ?_) (ih (i + 1) (by omega))
    rw [if_pos (by rw [rowL_len]; omega), w64 ((i : Int) + 1) (by omega) (by omega), rowL_succ]; rfl
theorem plain_ev (l : List Int) (h : dg 256 l) (hl : l.length ≤ 64) (b : Nat) (hb : 1 ≤ b) (hb8 : b ≤ 8) : Evn (fun k => digits_Plain.f k l (b : Int)) (plainL (vl 256 l) b (cnt l.length b), 0) := by
  have e := check_ev l 1 (b : Int) 0 (by rw [if_neg (by omega), if_neg (by omega)])
  have hc := cnt_le l.length b hb hl
  refine Evn.congr (fun k => by unfold digits_Plain.f; rfl) (Evn.bind e ?_)
  refine Evn.congr (fun k => ?_) (plain_loop l h hl b hb8 (cnt l.length b) (by omega) (cnt l.length b) 0 (by omega))
  rw [if_pos rfl, several_eval l b hb hb8 (by omega)]
  unfold digits_reader.f
  rw [bsome', bsome']; rfl
theorem plain_err (l : List Int) (n e0 : Int) (he : e0 = (if 64 < l.length then 11 else if n < 1 ∨ 8 < n then 10 else 0)) (hz : ¬ e0 = 0) : Evn (fun k => digits_Plain.f k l n) ([], e0) := by
  refine Evn.congr (fun k => by unfold digits_Plain.f; rfl) (Evn.bind (check_ev l 1 n e0 he) (Evn.of fun k => ?_))
  rw [if_neg hz]
theorem cols_loop (l : List Int) (h : dg 256 l) (hl : l.length ≤ 64) (b : Nat) (hb8 : b ≤ 8) (n : Nat) (hn : n ≤ 1048576) : ∀ (d i : Nat), i + d = n →
    Evn (fun k => digits_Columns.l0 k (b : Int) l (n : Int) (rowL (fun i => win (vl 256 l) i n b) i) (n : Int) (i : Int)) (colL (vl 256 l) b n, 0) := by
  intro d
  induction d with
  | zero =>
    intro i hi
    obtain rfl : i = n := by omega
    exact Evn.succ (h := fun _ => some (colL (vl 256 l) b i, 0)) (fun k => by rw [digits_Columns.l0, if_neg (by omega)]; rfl) (Evn.of fun _ => rfl)
  | succ d ih =>
    intro i hi
    have e := window_ev l h (by omega) i n b (by omega) (by omega) (by omega)
    refine Evn.succ (fun k => by rw [digits_Columns.l0, if_pos (by omega)]) (Evn.bind e ?_)
    refine Evn.congr (fun k => ?_) (ih (i + 1) (by omega))
    rw [if_pos (by rw [rowL_len]; omega), w64 ((i : Int) + 1) (by omega) (by omega), rowL_succ]; rfl
theorem cols_ev (l : List Int) (h : dg 256 l) (hl : l.length ≤ 64) (b : Nat) (hb : 1 ≤ b) (hb8 : b ≤ 8) : Evn (fun k => digits_Columns.f k l (b : Int)) (colL (vl 256 l) b (cnt l.length b), 0) := by
  have e := check_ev l 1 (b : Int) 0 (by rw [if_neg (by omega), if_neg (by omega)])
  have hc := cnt_le l.length b hb hl
  refine Evn.congr (fun k => by unfold digits_Columns.f; rfl) (Evn.bind e ?_)
  refine Evn.congr (fun k => ?_) (cols_loop l h hl b hb8 (cnt l.length b) (by omega) (cnt l.length b) 0 (by omega))
  rw [if_pos rfl, several_eval l b hb hb8 (by omega)]
  unfold digits_reader.f
  rw [bsome', bsome']; rfl
theorem cols_err (l : List Int) (n e0 : Int) (he : e0 = (if 64 < l.length then 11 else if n < 1 ∨ 8 < n then 10 else 0)) (hz : ¬ e0 = 0) : Evn (fun k => digits_Columns.f k l n) ([], e0) := by
  refine Evn.congr (fun k => by unfold digits_Columns.f; rfl) (Evn.bind (check_ev l 1 n e0 he) (Evn.of fun k => ?_))
  rw [if_neg hz]

theorem Evn.of_mono {α : Type} {g : Nat → Option α} {r : α} (K : Nat) (hm : ∀ k, LeO (g k) (g (k + 1))) (h : g K = some r) : Evn g r := by
  refine ⟨K, fun k hk => ?_⟩
  induction k with
  | zero => rw [show K = 0 by omega] at h; exact h
  | succ k ih =>
    by_cases e : K = k + 1
    · rw [← e]; exact h
    · exact hm k r (ih (by omega))
theorem awake7_ev : Evn (fun k => chicorylaw07_awake.f k) true := Evn.of_mono 16 chicorylaw07_awake.mono (by kernel_rfl)
theorem awake7_some : Evn (fun k => (chicorylaw07_awake.f k).bind fun t => some t) true := Evn.bind awake7_ev (Evn.of fun _ => rfl)

theorem ints_loop (l m : List Int) (hl : l.length ≤ 4611686018427387904) (hlm : l.length = m.length) : ∀ (d i : Nat), i + d = l.length → l.take i = m.take i → Evn (fun k => chicorylaw07_Ints.l0 k l m i) (decide (l = m)) := by
  intro d
  induction d with
  | zero =>
    intro i hi ht
    obtain rfl : i = l.length := by omega
    have e : l = m := by rw [List.take_length] at ht; rw [ht, hlm, List.take_length]
    refine Evn.succ (h := fun _ => some true) (fun k => by rw [chicorylaw07_Ints.l0, if_neg (by omega)]) (Evn.of fun _ => ?_)
    rw [decide_eq_true e]
  | succ d ih =>
    intro i hi ht
    by_cases hx : rd l (i : Int) = rd m (i : Int)
    · refine Evn.succ (fun k => ?_) (ih (i + 1) (by omega) (by rw [take_rd l i (by omega), take_rd m i (by omega), ht, hx]))
      rw [chicorylaw07_Ints.l0, if_pos (by omega), if_pos (by omega), if_pos (by omega), if_pos hx, w64 _ (by omega) (by omega)]; rfl
    · refine Evn.succ (h := fun _ => some false) (fun k => by rw [chicorylaw07_Ints.l0, if_pos (by omega), if_pos (by omega), if_pos (by omega), if_neg hx]) (Evn.of fun _ => ?_)
      rw [decide_eq_false (fun e => hx (by rw [e]))]
theorem ints_ev (l m : List Int) (hl : l.length ≤ 4611686018427387904) : Evn (fun k => chicorylaw07_Ints.f k l m) (decide (l = m)) := by
  by_cases hlm : l.length = m.length
  · refine Evn.congr (fun k => ?_) (ints_loop l m hl hlm l.length 0 (by omega) rfl)
    unfold chicorylaw07_Ints.f
    rw [if_pos (by omega)]; rfl
  · refine Evn.of fun k => ?_
    unfold chicorylaw07_Ints.f
    rw [if_neg (by omega), decide_eq_false (fun e => hlm (by rw [e]))]
theorem ints_same (l : List Int) (h : l.length ≤ 1048576) : Evn (fun k => chicorylaw07_Ints.f k l l) true := by
  have := ints_ev l l (by omega)
  rwa [decide_eq_true rfl] at this
theorem db_of {l : List Int} (h : ∀ x ∈ l, (Lit.int .u8 x).wf = true) : dg 256 l := fun x hx => by
  have := h x hx
  simp [Lit.wf, IntKind.min, IntKind.max, IntKind.signed, IntKind.bits] at this
  omega
end Go.Proofs.Ytdaehflffecllaa.A
