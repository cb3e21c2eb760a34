/- The law ScalarClamps returns true whatever the input: A0 of its proof; no condition. (Joined by wip/shake.py.) -/
import Derived.Test.YtdaehflffecllaaMScalarClampsN0
import Derived.Test.YtdaehflffecllaaMScalarClampsB0
import Derived.Test.YtdaehflffecllaaMScalarClampsT1
import Derived.Test.YtdaehflffecllaaMScalarClampsN2
import Derived.Lib.BitFns
import Derived.Lib.Mul64
import Derived.Test.YtdaehflffecllaaMScalarClampsN1
import Derived.Laws.BitsLemmas
namespace Go.Proofs.Ytdaehflffecllaa.A
open Go.RowKit Go.Proofs.YtdaehflffecllaaW.PrintWords Go.Proofs.Ytdaehflffecllaa.N Go.Proofs.Ytdaehflffecllaa.T
theorem rat_nn (l : List Int) (h : dg 256 l) (i : Nat) : chicoryref03_at.f l (i : Int) = some (rd l (i : Int)) := by
  unfold chicoryref03_at.f
  have hr := rd_bd h C0 i
  by_cases hi : (i : Int) ≥ (l.length : Int)
  · rw [if_pos hi, rd_beyond l i (by omega)]
  · rw [if_neg hi, if_pos (by omega), if_pos (by omega), w64 _ (by omega) (by omega)]
theorem rbit_loop (i : Nat) : ∀ (d j : Nat) (x : Int), j + d = i % 8 → 0 ≤ x → x < 256 → Evn (fun k => chicoryref03_Bit.l0 k (i : Int) x (j : Int)) (x / 2 ^ d % 2) := by
  intro d
  induction d with
  | zero =>
    intro j x hj hx _
    have e2 := tmod_nat i 8
    rw [show ((8 : Nat) : Int) = 8 from rfl] at e2
    refine Evn.succ (h := fun _ => some (Int.tmod x 2)) (fun k => by rw [chicoryref03_Bit.l0, e2, if_neg (by omega)]) (Evn.of fun _ => ?_)
    rw [Int.tmod_eq_emod_of_nonneg hx]; simp
  | succ d ih =>
    intro j x hj hx hx1
    have e2 := tmod_nat i 8
    rw [show ((8 : Nat) : Int) = 8 from rfl] at e2
    have := ih (j + 1) (x / 2) (by omega) (by omega) (by omega)
    rw [Int.ediv_ediv_of_nonneg (by omega), show (2 : Int) * 2 ^ d = 2 ^ (d + 1) by rw [Int.pow_succ, Int.mul_comm]] at this
    refine Evn.succ (fun k => ?_) this
    rw [chicoryref03_Bit.l0, e2, if_pos (by omega), Int.tdiv_eq_ediv_of_nonneg hx, w64 _ (by omega) (by omega), w64 _ (by omega) (by omega)]
    rfl
theorem rbit_ev (l : List Int) (h : dg 256 l) (i : Int) (hi : i ≤ 9223372036854775807) : Evn (fun k => chicoryref03_Bit.f k l i) (bitv (vl 256 l) i) := by
  by_cases h0 : i < 0
  · refine Evn.of fun k => ?_
    unfold chicoryref03_Bit.f bitv; rw [if_pos h0, if_pos h0]
  · obtain ⟨j, rfl⟩ := Int.eq_ofNat_of_zero_le (show 0 ≤ i by omega)
    have e1 := tdiv_nat j 8
    rw [show ((8 : Nat) : Int) = 8 from rfl] at e1
    have hb := rd_bd h C0 (j / 8)
    have e := rbit_loop j (j % 8) 0 (rd l ((j / 8 : Nat) : Int)) (by omega) hb.1 hb.2
    rw [rd_vl h C0] at e
    have e3 := digit_bit (vl 256 l) 8 (j / 8) (j % 8) (by omega)
    rw [show 8 * (j / 8) + j % 8 = j by omega, show (2 : Int) ^ 8 = 256 from rfl] at e3
    rw [e3, ← bitv_nat] at e
    refine Evn.congr (fun k => ?_) e
    unfold chicoryref03_Bit.f
    rw [if_neg h0, e1, w64 _ (by omega) (by omega), rat_nn l h]
    simp only [Option.bind_some]
    rw [rd_vl h C0]; rfl
theorem bit_top {n : Int} {m : Nat} (h0 : 0 ≤ n) (h1 : n < 2 ^ (m + 1)) : (bitv n (m : Int) = 0 → n < 2 ^ m) ∧ (¬ bitv n (m : Int) = 0 → 2 ^ m ≤ n) := by
  rw [bitv_nat]
  have hp := two_pos m
  have h2 := Int.emod_add_mul_ediv n (2 ^ m)
  have h3 := Int.emod_lt_of_pos n hp
  have h4 := Int.emod_nonneg n (show (2 : Int) ^ m ≠ 0 by omega)
  have h5 : n / 2 ^ m < 2 := Int.ediv_lt_of_lt_mul hp (by rw [Int.pow_succ] at h1; omega)
  have h6 := ediv_nn (b := 2 ^ m) h0 (Int.le_of_lt hp)
  generalize n / 2 ^ m = q at *
  constructor
  · intro h
    have : q = 0 := by omega
    subst this; omega
  · intro h
    have : q = 1 := by omega
    subst this; omega
theorem rlen_loop (l : List Int) (h : dg 256 l) : ∀ m : Nat, m ≤ 4611686018427387904 → vl 256 l < 2 ^ m → Evn (fun k => chicoryref03_Len.l0 k l (m : Int)) (nbit (vl 256 l)) := by
  intro m
  have hn := vl_nonneg h C0
  induction m with
  | zero =>
    intro _ h1
    have hz : vl 256 l = 0 := by simp at h1; omega
    rw [hz]
    exact Evn.succ (h := fun _ => some 0) (fun k => by rw [chicoryref03_Len.l0, if_neg (by omega)]; rfl) (Evn.of fun _ => rfl)
  | succ m ih =>
    intro hm h1
    have e0 : wrap64 (((m + 1 : Nat) : Int) - 1) = (m : Int) := by rw [w64 _ (by omega) (by omega)]; omega
    obtain ⟨t0, t1⟩ := bit_top hn h1
    refine Evn.succ (h := fun k => (chicoryref03_Bit.f k l (m : Int)).bind fun t255 => (if t255 = 0 then (chicoryref03_Len.l0 k l (m : Int)) else (some ((m + 1 : Nat) : Int)))) (fun k => by rw [chicoryref03_Len.l0, if_pos (by omega), e0]) ?_
    refine Evn.bind (rbit_ev l h (m : Int) (by omega)) ?_
    by_cases hb : bitv (vl 256 l) (m : Int) = 0
    · exact Evn.congr (fun k => by rw [if_pos hb]) (ih (by omega) (t0 hb))
    · refine Evn.of fun k => ?_
      rw [if_neg hb, nbit_unique (t1 hb) h1]; rfl
theorem rlen_ev (l : List Int) (h : dg 256 l) (hl : l.length ≤ 1099511627776) : Evn (fun k => chicoryref03_Len.f k l) (nbit (vl 256 l)) := by
  refine Evn.congr (fun k => ?_) (rlen_loop l h (8 * l.length) (by omega) (by rw [Int.pow_mul]; exact vl_lt h C0))
  unfold chicoryref03_Len.f
  rw [w64 _ (by omega) (by omega)]; rfl
end Go.Proofs.Ytdaehflffecllaa.A
namespace Go.Proofs.Ytdaehflffecllaa.A
open Go.RowKit Go.Proofs.YtdaehflffecllaaW.PrintWords Go.Proofs.Ytdaehflffecllaa.N Go.Proofs.Ytdaehflffecllaa.T
theorem beq_loop (l m : List Int) (hl : l.length ≤ 4611686018427387904) (hlm : l.length = m.length) : ∀ (d i : Nat), i + d = l.length → l.take i = m.take i → Evn (fun k => chicorylaw01_Bytes.l0 k l m i) (decide (l = m)) := by
  intro d
  induction d with
  | zero =>
    intro i hi h
    rw [List.take_of_length_le (by omega), List.take_of_length_le (by omega)] at h
    refine Evn.succ (h := fun _ => some true) (fun k => by rw [chicorylaw01_Bytes.l0, if_neg (by omega)]) (Evn.of fun _ => ?_)
    rw [decide_eq_true h]
  | succ d ih =>
    intro i hi h
    by_cases he : rd l (i : Int) = rd m (i : Int)
    · refine Evn.succ (fun k => ?_) (ih (i + 1) (by omega) (by rw [take_rd l i (by omega), take_rd m i (by omega), h, he]))
      rw [chicorylaw01_Bytes.l0, if_pos (by omega), if_pos (by omega), if_pos (by omega), if_pos he, w64 _ (by omega) (by omega)]; rfl
    · refine Evn.succ (h := fun _ => some false) (fun k => by rw [chicorylaw01_Bytes.l0, if_pos (by omega), if_pos (by omega), if_pos (by omega), if_neg he]) (Evn.of fun _ => ?_)
      rw [decide_eq_false (fun e => he (by rw [e]))]
theorem beq_ev (l m : List Int) (hl : l.length ≤ 4611686018427387904) : Evn (fun k => chicorylaw01_Bytes.f k l m) (decide (l = m)) := by
  by_cases h : l.length = m.length
  · refine Evn.congr (fun k => ?_) (beq_loop l m hl h l.length 0 (by omega) rfl)
    unfold chicorylaw01_Bytes.f
    rw [if_pos (by omega)]; rfl
  · refine Evn.of fun k => ?_
    unfold chicorylaw01_Bytes.f
    rw [if_neg (by omega), decide_eq_false (fun e => h (by rw [e]))]
end Go.Proofs.Ytdaehflffecllaa.A
namespace Go.Proofs.Ytdaehflffecllaa.A
open Go.RowKit Go.Proofs.YtdaehflffecllaaW.PrintWords Go.Proofs.Ytdaehflffecllaa.N Go.Proofs.Ytdaehflffecllaa.T
set_option exponentiation.threshold 2000
theorem bs6 {α β : Type} (a : α) (f : α → Option β) : (some a).bind f = f a := by cases h : f a <;> simp [h]
end Go.Proofs.Ytdaehflffecllaa.A
namespace Go.Proofs.Ytdaehflffecllaa.A
open Go.RowKit Go.Proofs.YtdaehflffecllaaW.PrintWords Go.Proofs.Ytdaehflffecllaa.N Go.Proofs.Ytdaehflffecllaa.T
theorem emono {α : Type} {g : Nat → Option α} {r : α} (K : Nat) (hm : ∀ k, LeO (g k) (g (k + 1))) (h : g K = some r) : Evn g r := by
  refine ⟨K, fun k hk => ?_⟩
  induction k with
  | zero => rw [show K = 0 by omega] at h; exact h
  | succ k ih =>
    by_cases e : K = k + 1
    · rw [← e]; exact h
    · exact hm k r (ih (by omega))
theorem awake6_ev : Evn (fun k => chicorylaw06_awake.f k) true := emono 80 chicorylaw06_awake.mono (by kernel_rfl)
theorem awake6_some : Evn (fun k => (chicorylaw06_awake.f k).bind fun t => some t) true := Evn.bind awake6_ev (Evn.of fun _ => rfl)
theorem bytes_of {l : List Int} (h : ∀ x ∈ l, (Lit.int .u8 x).wf = true) : dg 256 l := fun x hx => by
  have := h x hx
  simp [Lit.wf, IntKind.min, IntKind.max, IntKind.signed, IntKind.bits] at this
  omega
end Go.Proofs.Ytdaehflffecllaa.A
namespace Go.Proofs.Ytdaehflffecllaa.Pure
open Go.RowKit Go.Proofs.Ytdaehflffecllaa.N Go.Proofs.YtdaehflffecllaaW.PrintWords Go.Proofs.Ytdaehflffecllaa.T Go.Proofs.Ytdaehflffecllaa.A
theorem tb_nat (a keep set : Nat) (ha : a < 256) (hk : keep < 256) (hs : set < 256) (h1 : a &&& keep < 256) : tb (a : Int) (keep : Int) (set : Int) = (((a &&& keep) ||| set : Nat) : Int) := by
  have e1 := (bits_nat .u8 8 (by decide) (fun n h0 h1 => by rw [IntKind.wrap_u8]; omega) a keep (by omega) (by omega)).1
  have e2 := (bits_nat .u8 8 (by decide) (fun n h0 h1 => by rw [IntKind.wrap_u8]; omega) (a &&& keep) set (by omega) (by omega)).2
  unfold tb
  rw [e1, e2]
theorem tb_zero (x : Int) (h0 : 0 ≤ x) (h1 : x < 256) : tb x 0 0 = 0 := by
  obtain ⟨a, rfl⟩ := Int.eq_ofNat_of_zero_le h0
  have := tb_nat a 0 0 (by omega) (by omega) (by omega) (by rw [Nat.and_zero]; omega)
  rw [Nat.and_zero, Nat.or_zero] at this
  exact this
theorem and252 : ∀ a : Nat, a < 256 → a &&& 252 = a / 4 * 4 := by decide +kernel
theorem or128 : ∀ a : Nat, a < 256 → (a &&& 255) ||| 128 = a % 128 + 128 := by decide +kernel
theorem tb_low (x : Int) (h0 : 0 ≤ x) (h1 : x < 256) : tb x 252 0 = x / 4 * 4 := by
  obtain ⟨a, rfl⟩ := Int.eq_ofNat_of_zero_le h0
  have h := and252 a (by omega)
  have := tb_nat a 252 0 (by omega) (by omega) (by omega) (by rw [h]; omega)
  rw [Nat.or_zero, h] at this
  refine this.trans ?_
  omega
theorem tb_high (x : Int) (h0 : 0 ≤ x) (h1 : x < 256) : tb x 255 128 = x % 128 + 128 := by
  obtain ⟨a, rfl⟩ := Int.eq_ofNat_of_zero_le h0
  have hl : a &&& 255 < 256 := by have := Nat.and_le_right (n := a) (m := 255); omega
  have := tb_nat a 255 128 (by omega) (by omega) (by omega) hl
  rw [or128 a (by omega)] at this
  refine this.trans ?_
  omega
/-- The clamped bytes. -/
def cl (l : List Int) : List Int :=
  let b := (l.set 0 (rd l ((0 : Nat) : Int) / 4 * 4)).set 55 (rd l ((55 : Nat) : Int) % 128 + 128)
  if l.length = 57 then b.set 56 0 else b
theorem clamp_cl (l : List Int) (h : dg 256 l) (hl : l.length = 56 ∨ l.length = 57) : clampL l = cl l := by
  have r0 := rd_bd h C0 0
  have r55 := rd_bd h C0 55
  have r56 := rd_bd h C0 56
  unfold clampL cl
  by_cases h57 : l.length = 57
  · simp only [if_pos h57]
    rw [rd_set l 56 0 _ (by omega), if_neg (by omega), rd_set (l.set 56 _) 0 55 _ (by simp; omega), if_neg (by omega), rd_set l 56 55 _ (by omega), if_neg (by omega), tb_zero _ r56.1 r56.2, tb_low _ r0.1 r0.2, tb_high _ r55.1 r55.2]
    rw [List.set_comm _ _ (show (56 : Nat) ≠ 0 by omega), List.set_comm _ _ (show (56 : Nat) ≠ 55 by omega)]
  · simp only [if_neg h57]
    rw [rd_set l 0 55 _ (by omega), if_neg (by omega), tb_low _ r0.1 r0.2, tb_high _ r55.1 r55.2]
theorem cl_db (l : List Int) (h : dg 256 l) : dg 256 (cl l) := by
  have r0 := rd_bd h C0 0
  have r55 := rd_bd h C0 55
  unfold cl
  simp only
  split
  · exact dg_set (dg_set (dg_set h (by omega) (by omega)) (by omega) (by omega)) (by omega) (by omega)
  · exact dg_set (dg_set h (by omega) (by omega)) (by omega) (by omega)
theorem cl_len (l : List Int) : (cl l).length = l.length := by unfold cl; simp only; split <;> simp
theorem cl_0 (l : List Int) (hl : l.length = 56 ∨ l.length = 57) : rd (cl l) ((0 : Nat) : Int) = rd l ((0 : Nat) : Int) / 4 * 4 := by
  unfold cl
  simp only
  split
  · rw [rd_set _ _ _ _ (by simp; omega), if_neg (by omega), rd_set _ _ _ _ (by simp; omega), if_neg (by omega), rd_set _ _ _ _ (by omega), if_pos rfl]
  · rw [rd_set _ _ _ _ (by simp; omega), if_neg (by omega), rd_set _ _ _ _ (by omega), if_pos rfl]
theorem cl_55 (l : List Int) (hl : l.length = 56 ∨ l.length = 57) : rd (cl l) ((55 : Nat) : Int) = rd l ((55 : Nat) : Int) % 128 + 128 := by
  unfold cl
  simp only
  split
  · rw [rd_set _ _ _ _ (by simp; omega), if_neg (by omega), rd_set _ _ _ _ (by simp; omega), if_pos rfl]
  · rw [rd_set _ _ _ _ (by simp; omega), if_pos rfl]
theorem cl_56 (l : List Int) (hl : l.length = 56 ∨ l.length = 57) : rd (cl l) ((56 : Nat) : Int) = 0 := by
  by_cases h : l.length = 57
  · unfold cl
    simp only [if_pos h]
    rw [rd_set _ _ _ _ (by simp; omega), if_pos rfl]
  · exact rd_beyond _ _ (by rw [cl_len]; omega)
theorem cl_val (l : List Int) (h : dg 256 l) (hl : l.length = 56 ∨ l.length = 57) : 2 ^ 447 ≤ vl 256 (cl l) ∧ vl 256 (cl l) < 2 ^ 448 ∧ vl 256 (cl l) % 4 = 0 := by
  have hd := cl_db l h
  have r55 := rd_bd h C0 55
  have r0 := rd_bd h C0 0
  have e57 : vl 256 (cl l) = vl 256 ((cl l).take 57) := by rw [List.take_of_length_le (by rw [cl_len]; omega)]
  have e56 : vl 256 ((cl l).take 57) = vl 256 ((cl l).take 56) + 256 ^ 56 * rd (cl l) ((56 : Nat) : Int) := vl_take_succ (cl l) 56
  have e55 : vl 256 ((cl l).take 56) = vl 256 ((cl l).take 55) + 256 ^ 55 * rd (cl l) ((55 : Nat) : Int) := vl_take_succ (cl l) 55
  have hb := vl_take_bd hd C0 55
  rw [cl_56 l hl] at e56
  rw [cl_55 l hl] at e55
  have p1 : (256 : Int) ^ 55 * 128 = 2 ^ 447 := by decide +kernel
  have p2 : (256 : Int) ^ 55 * 256 = 2 ^ 448 := by decide +kernel
  have hx : 128 ≤ rd l ((55 : Nat) : Int) % 128 + 128 ∧ rd l ((55 : Nat) : Int) % 128 + 128 ≤ 255 := by omega
  generalize rd l ((55 : Nat) : Int) % 128 + 128 = x at e55 hx
  have hp := pow_pos C0 55
  have m1 := Int.mul_le_mul_of_nonneg_left hx.1 (Int.le_of_lt hp)
  have m2 := Int.mul_le_mul_of_nonneg_left hx.2 (Int.le_of_lt hp)
  have m3 : (256 : Int) ^ 55 * 255 + 256 ^ 55 = 256 ^ 55 * 256 := by decide +kernel
  have ed : vl 256 (cl l) = rd (cl l) ((0 : Nat) : Int) + 256 * vl 256 ((cl l).drop 1) := by
    have := vl_drop (B := 256) (cl l) 0
    rw [List.drop_zero] at this
    exact this
  rw [cl_0 l hl] at ed
  refine ⟨?_, ?_, ?_⟩
  · generalize (256 : Int) ^ 55 = P at *
    omega
  · generalize (256 : Int) ^ 55 = P at *
    omega
  · omega
theorem rclamp_eval (l : List Int) (h : dg 256 l) (hl : l.length = 56 ∨ l.length = 57) : chicoryref06_Clamp.f l = some (cl l) := by
  have r0 := rd_bd h C0 0
  have r55 := rd_bd h C0 55
  have q0 : Int.tdiv (rd l ((0 : Nat) : Int)) 4 = rd l ((0 : Nat) : Int) / 4 := Int.tdiv_eq_ediv_of_nonneg r0.1
  have q1 : Int.tmod (rd l ((55 : Nat) : Int)) 128 = rd l ((55 : Nat) : Int) % 128 := Int.tmod_eq_emod_of_nonneg r55.1
  unfold chicoryref06_Clamp.f
  rw [if_pos (by simp; omega), bs6, List.nil_append, if_pos (by omega), bs6, if_pos (by omega), bs6]
  rw [show (0 : Int) = ((0 : Nat) : Int) from rfl, show (55 : Int) = ((55 : Nat) : Int) from rfl, Int.toNat_natCast, Int.toNat_natCast, rd_set l 0 55 _ (by omega), if_neg (show ¬ (0 : Nat) = 55 by omega), q0, q1]
  rw [Int.emod_eq_of_lt (a := rd l ((0 : Nat) : Int) / 4) (by omega) (by omega), Int.emod_eq_of_lt (a := rd l ((0 : Nat) : Int) / 4 * 4) (by omega) (by omega), Int.emod_eq_of_lt (a := rd l ((55 : Nat) : Int) % 128 + 128) (by omega) (by omega)]
  unfold cl
  by_cases h57 : l.length = 57
  · rw [if_pos (by omega), if_pos (by omega), if_pos h57]; rfl
  · rw [if_neg (by omega), if_neg h57]
theorem ScalarClamps : chicorylaw06_ScalarClamps.Pure := by
  intro l0 _ _ hw0
  have d0 := bytes_of hw0
  refine Evn.get (?_ : Evn (fun k => chicorylaw06_ScalarClamps.f k l0) true)
  by_cases h100 : 100 < l0.length
  · exact Evn.congr (fun k => by unfold chicorylaw06_ScalarClamps.f; rw [if_pos (by omega)]) awake6_some
  · have hlt : l0.length < 140737488355328 := by omega
    by_cases hl : l0.length = 56 ∨ l0.length = 57
    · have hc : scalar_Clamp.f l0 = some (cl l0, 0) := by unfold scalar_Clamp.f; rw [if_pos hlt, if_pos hl, clamp_cl l0 d0 hl]
      have hcd := cl_db l0 d0
      have hcl := cl_len l0
      have hcv := cl_val l0 d0 hl
      have e1 := beq_ev (cl l0) (cl l0) (by omega)
      rw [decide_eq_true rfl] at e1
      have e2 := rlen_ev (cl l0) hcd (by omega)
      rw [nbit_unique (n := vl 256 (cl l0)) (m := 447) hcv.1 hcv.2.1] at e2
      have e3 := rbit_ev (cl l0) hcd ((0 : Nat) : Int) (by omega)
      have e4 := rbit_ev (cl l0) hcd ((1 : Nat) : Int) (by omega)
      have b0 : bitv (vl 256 (cl l0)) ((0 : Nat) : Int) = 0 := by rw [bitv_nat, show (2 : Int) ^ 0 = 1 from rfl, Int.ediv_one]; omega
      have b1 : bitv (vl 256 (cl l0)) ((1 : Nat) : Int) = 0 := by rw [bitv_nat, show (2 : Int) ^ 1 = 2 from rfl]; omega
      rw [b0] at e3
      rw [b1] at e4
      have e3' : Evn (fun k => chicoryref03_Bit.f k (cl l0) 0) 0 := e3
      have e4' : Evn (fun k => chicoryref03_Bit.f k (cl l0) 1) 0 := e4
      have hj : Evn (fun k => chicorylaw06_ScalarClamps.j0 k l0 (cl l0) 0 false) true := by
        refine Evn.succ (fun k => by rw [chicorylaw06_ScalarClamps.j0, if_neg (by decide), if_pos rfl, rclamp_eval l0 d0 hl, bs6]) (Evn.bind e1 ?_)
        refine Evn.congr (fun k => by rw [if_pos rfl]) (Evn.bind e2 ?_)
        refine Evn.congr (fun k => by rw [if_pos (by rfl)]) (Evn.bind e3' (Evn.bind e4' ?_))
        exact Evn.congr (fun k => by rw [if_pos (by rw [w64 _ (by omega) (by omega)]; rfl)]) awake6_some
      refine Evn.congr (fun k => ?_) hj
      unfold chicorylaw06_ScalarClamps.f
      rw [if_neg (by omega), hc, bs6]
      by_cases h56 : l0.length = 56
      · rw [if_pos (by omega)]
      · rw [if_neg (by omega), bne_eq_false_iff_eq.2 (by omega)]
    · have hc : scalar_Clamp.f l0 = some ([], 11) := by unfold scalar_Clamp.f; rw [if_pos hlt, if_neg hl]
      refine Evn.congr (h := fun k => chicorylaw06_ScalarClamps.j0 k l0 [] 11 true) (fun k => ?_) (Evn.succ (fun k => by rw [chicorylaw06_ScalarClamps.j0, if_pos rfl, if_pos (by rfl), if_pos rfl]) awake6_some)
      unfold chicorylaw06_ScalarClamps.f
      rw [if_neg (by omega), hc, bs6, if_neg (by omega), bne_iff_ne.2 (by omega)]
end Go.Proofs.Ytdaehflffecllaa.Pure
