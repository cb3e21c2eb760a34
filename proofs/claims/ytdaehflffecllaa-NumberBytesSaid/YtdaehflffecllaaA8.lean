/- What number.Of and number.Bytes come to. -/
import Derived.Test.YtdaehflffecllaaNx1
import Derived.Test.YtdaehflffecllaaNx6
import Derived.Test.YtdaehflffecllaaA4
import Derived.Test.YtdaehflffecllaaA6
namespace Go.Proofs.Ytdaehflffecllaa.A
open Go.RowKit Go.Proofs.YtdaehflffecllaaW.PrintWords Go.Proofs.Ytdaehflffecllaa.N Go.Proofs.Ytdaehflffecllaa.T

/-- Digits of one length, and one value, are the same. -/
theorem dg_inj {B : Int} (hB : 0 < B) : ∀ (l m : List Int), dg B l → dg B m → l.length = m.length → vl B l = vl B m → l = m := by
  intro l
  induction l with
  | nil => intro m _ _ h _; exact (List.eq_nil_of_length_eq_zero h.symm).symm
  | cons x xs ih =>
    intro m hl hm h e
    cases m with
    | nil => simp at h
    | cons y ys =>
      have h1 := dg_cons hl
      have h2 := dg_cons hm
      have e1 : vl B (x :: xs) = x + B * vl B xs := rfl
      have e2 : vl B (y :: ys) = y + B * vl B ys := rfl
      have a1 := mod_of e1 h1.1.1 h1.1.2
      have a2 := mod_of e2 h2.1.1 h2.1.2
      have b1 := div_of e1 h1.1.1 h1.1.2
      have b2 := div_of e2 h2.1.1 h2.1.2
      rw [e] at a1 b1
      rw [show x = y by omega, ih ys h1.2 h2.2 (by simpa using h) (by omega)]
theorem of_loop (l : List Int) (h : dg 256 l) (hl : l.length ≤ 1073741824) : ∀ (d i : Nat) (out : List Int), i + d = l.length → 8 * out.length < l.length + 8 → l.length ≤ 8 * out.length → dg 18446744073709551616 out → vl 18446744073709551616 out = vl 256 (l.take i) →
    Evn (fun k => number_Of.l0 k out l l.length i) (dgs 18446744073709551616 (vl 256 l)) := by
  intro d
  induction d with
  | zero =>
    intro i out hi _ _ hd hv
    obtain rfl : i = l.length := by omega
    rw [List.take_length] at hv
    refine Evn.succ (h := fun _ => some (cutL out)) (fun k => by rw [number_Of.l0, if_neg (by omega)]; rfl) (Evn.of fun _ => ?_)
    rw [cut_eq B2 hd hv]
  | succ d ih =>
    intro i out hi ho1 ho2 hd hv
    have hr := rd_bd h C0 i
    have ht := vl_take_bd h C0 i
    have hw : i / 8 < out.length := by omega
    have hro := rd_bd hd B0 (i / 8)
    have t1 := tdiv_nat i 8
    have t2 := tmod_nat i 8
    rw [show ((8 : Nat) : Int) = 8 from rfl] at t1 t2
    have hs8 : (256 : Int) ^ (i % 8) = 2 ^ (8 * (i % 8)) := by rw [Int.pow_mul]; rfl
    have hpw : (256 : Int) ^ i = 18446744073709551616 ^ (i / 8) * 2 ^ (8 * (i % 8)) := by
      rw [← hs8, show (18446744073709551616 : Int) = 256 ^ 8 from rfl, ← Int.pow_mul, ← Int.pow_add]; congr 1; omega
    have hp8 := pow_pos B0 (i / 8)
    have hp2 := two_pos (8 * (i % 8))
    have hrb : rd out ((i / 8 : Nat) : Int) < 2 ^ (8 * (i % 8)) := by
      rw [rd_vl hd B0, hv]
      have h1 : vl 256 (l.take i) / 18446744073709551616 ^ (i / 8) < 2 ^ (8 * (i % 8)) := Int.ediv_lt_of_lt_mul hp8 (by rw [Int.mul_comm, ← hpw]; exact ht.2)
      have h2 := ediv_nn (b := 18446744073709551616 ^ (i / 8)) ht.1 (Int.le_of_lt hp8)
      have h3 := Int.emod_add_mul_ediv (vl 256 (l.take i) / 18446744073709551616 ^ (i / 8)) 18446744073709551616
      have h4 := ediv_nn (b := 18446744073709551616) h2 (by omega)
      omega
    have h56 : (2 : Int) ^ (8 * (i % 8)) ≤ 2 ^ 56 := pow_le (by omega) (by omega)
    rw [show (2 : Int) ^ 56 = 72057594037927936 from rfl] at h56
    have hy0 : 0 ≤ rd l (i : Int) * 2 ^ (8 * (i % 8)) := Int.mul_nonneg hr.1 (Int.le_of_lt hp2)
    have hy1 : rd l (i : Int) * 2 ^ (8 * (i % 8)) ≤ 255 * 2 ^ (8 * (i % 8)) := Int.mul_le_mul_of_nonneg_right (by omega) (Int.le_of_lt hp2)
    have hsh : shl .u64 (IntKind.u64.wrap (rd l (i : Int))) ((8 * (i % 8) : Nat) : Int) = rd l (i : Int) * 2 ^ (8 * (i % 8)) := by
      rw [shl_eq _ _ (by omega), wrap_id _ hr.1 (by omega), Int.emod_eq_of_lt hy0 (by omega)]
    have hor : Go.bits .or .u64 (rd out ((i / 8 : Nat) : Int)) (rd l (i : Int) * 2 ^ (8 * (i % 8))) = rd out ((i / 8 : Nat) : Int) + rd l (i : Int) * 2 ^ (8 * (i % 8)) := by
      rw [or_comm' _ _ hro.1 hro.2 hy0 (by omega), or_add _ _ (8 * (i % 8)) hy0 (by omega) hro.1 hrb (by omega) (Int.mul_emod_left _ _), Int.add_comm]
    refine Evn.succ (fun k => ?_) (ih (i + 1) (out.set (i / 8) (rd out ((i / 8 : Nat) : Int) + rd l (i : Int) * 2 ^ (8 * (i % 8)))) (by omega) (by rw [List.length_set]; omega) (by rw [List.length_set]; omega) (dg_set hd (by omega) (by omega)) (by
      rw [vl_set _ _ _ hw, hv, vl_take_succ, hpw]; grind))
    rw [number_Of.l0, if_pos (by omega), if_pos (by omega), if_pos (by omega), t1, t2, w64 ((i / 8 : Nat) : Int) (by omega) (by omega), if_pos (by omega), if_pos (by omega), w64 (8 * ((i % 8 : Nat) : Int)) (by omega) (by omega), if_pos (by omega), Int.toNat_natCast, show 8 * ((i % 8 : Nat) : Int) = ((8 * (i % 8) : Nat) : Int) by omega, hsh, hor, w64 _ (by omega) (by omega)]
    rfl
theorem of_ev (l : List Int) (h : dg 256 l) (hl : l.length ≤ 1073741824) : Evn (fun k => number_Of.f k l) (dgs 18446744073709551616 (vl 256 l)) := by
  refine Evn.congr (fun k => ?_) (of_loop l h hl l.length 0 (List.replicate ((l.length + 7) / 8) 0) (by omega) (by simp; omega) (by simp; omega) (dg_replicate B0 _) (by rw [vl_zeros]; simp [vl]))
  have t1 := tdiv_nat (l.length + 7) 8
  rw [show ((8 : Nat) : Int) = 8 from rfl] at t1
  unfold number_Of.f
  rw [w64 ((l.length : Int) + 8) (by omega) (by omega), show (l.length : Int) + 8 - 1 = ((l.length + 7 : Nat) : Int) by omega, w64 ((l.length + 7 : Nat) : Int) (by omega) (by omega), t1, w64 _ (by omega) (by omega), if_pos (by omega), if_pos (by omega), Int.toNat_natCast]
  rfl

theorem nbytes_loop (l : List Int) (h : dg 18446744073709551616 l) (n : Nat) (hn : n ≤ 65536) : ∀ (d i : Nat) (out : List Int), i + d = n → out.length = n → dg 256 (out.take i) → vl 256 (out.take i) = vl 18446744073709551616 l % 256 ^ i →
    ∃ o : List Int, o.length = n ∧ dg 256 o ∧ vl 256 o = vl 18446744073709551616 l % 256 ^ n ∧ Evn (fun k => number_Bytes.l0 k l out n i) (o, 0) := by
  have hv := vl_nonneg h B0
  intro d
  induction d with
  | zero =>
    intro i out hi ho hd hvv
    obtain rfl : i = n := by omega
    have ht : out.take i = out := by rw [← ho]; exact List.take_length
    rw [ht] at hd hvv
    exact ⟨out, ho, hd, hvv, Evn.succ (h := fun _ => some (out, 0)) (fun k => by rw [number_Bytes.l0, if_neg (by omega)]) (Evn.of fun _ => rfl)⟩
  | succ d ih =>
    intro i out hi ho hd hvv
    have hr := rd_bd h B0 (i / 8)
    have t1 := tdiv_nat i 8
    have t2 := tmod_nat i 8
    rw [show ((8 : Nat) : Int) = 8 from rfl] at t1 t2
    have hdig : rd l ((i / 8 : Nat) : Int) / 2 ^ (8 * (i % 8)) % 256 = vl 18446744073709551616 l / 256 ^ i % 256 := by
      rw [rd_vl h B0]
      have hpw : (256 : Int) ^ i = 18446744073709551616 ^ (i / 8) * 256 ^ (i % 8) := by
        rw [show (18446744073709551616 : Int) = 256 ^ 8 from rfl, ← Int.pow_mul, ← Int.pow_add]; congr 1; omega
      have hs8 : (2 : Int) ^ (8 * (i % 8)) = 256 ^ (i % 8) := by rw [Int.pow_mul]; rfl
      rw [hs8, hpw, ← Int.ediv_ediv_of_nonneg (Int.le_of_lt (pow_pos B0 _))]
      generalize vl 18446744073709551616 l / 18446744073709551616 ^ (i / 8) = X
      have hp := pow_pos C0 (i % 8)
      have e1 : (18446744073709551616 : Int) = 256 ^ (i % 8) * (256 * 256 ^ (7 - i % 8)) := by
        rw [← Int.pow_succ', ← Int.pow_add, show i % 8 + (7 - i % 8 + 1) = 8 by omega]; rfl
      have e2 := Int.emod_add_mul_ediv X 18446744073709551616
      have e3 : X = X % 18446744073709551616 + 256 ^ (i % 8) * (256 * (256 ^ (7 - i % 8) * (X / 18446744073709551616))) := by
        conv at e2 => lhs; rhs; rw [e1]
        grind
      conv => rhs; rw [e3]
      rw [Int.add_mul_ediv_left _ _ (by omega), Int.add_mul_emod_self_left]
    have hb0 := Int.emod_nonneg (vl 18446744073709551616 l / 256 ^ i) (show (256 : Int) ≠ 0 by omega)
    have hb1 := Int.emod_lt_of_pos (vl 18446744073709551616 l / 256 ^ i) C0
    obtain ⟨o, h1, h2, h3, h4⟩ := ih (i + 1) (out.set i (vl 18446744073709551616 l / 256 ^ i % 256)) (by omega) (by rw [List.length_set]; exact ho) (dg_set_take hd (by omega) hb0 hb1) (by
      rw [vl_set_take _ _ _ (by omega), hvv, Int.pow_succ, mod_succ _ _ _ (pow_pos C0 i)])
    refine ⟨o, h1, h2, h3, Evn.succ (fun k => ?_) h4⟩
    rw [number_Bytes.l0, if_pos (by omega), t1, t2, w64 ((i / 8 : Nat) : Int) (by omega) (by omega), at_nn, bsome, w64 (8 * ((i % 8 : Nat) : Int)) (by omega) (by omega), if_pos (by omega), if_pos (by omega), if_pos (by omega), show 8 * ((i % 8 : Nat) : Int) = ((8 * (i % 8) : Nat) : Int) by omega, shr_eq _ _ (by omega), hdig, Int.toNat_natCast, w64 _ (by omega) (by omega)]
    rfl
/-- The bytes of a number, so many. -/
theorem nbytes_ev (l : List Int) (h : dg 18446744073709551616 l) (hl : l.length ≤ 1073741824) (n : Nat) (hn : n ≤ 65536) (hlt : vl 18446744073709551616 l < 256 ^ n) :
    ∃ o : List Int, o.length = n ∧ dg 256 o ∧ vl 256 o = vl 18446744073709551616 l ∧ Evn (fun k => number_Bytes.f k l (n : Int)) (o, 0) := by
  have hv := vl_nonneg h B0
  obtain ⟨o, h1, h2, h3, h4⟩ := nbytes_loop l h n hn n 0 (List.replicate n 0) (by omega) (by simp) (by simp; exact dg_nil) (by simp [vl])
  rw [Int.emod_eq_of_lt hv hlt] at h3
  refine ⟨o, h1, h2, h3, Evn.congr (fun k => by unfold number_Bytes.f; rw [if_neg (by omega), decide_eq_false (by omega)]) ?_⟩
  have hnb : nbit (vl 18446744073709551616 l) ≤ 8 * n := nbit_le (n := vl 18446744073709551616 l) (m := 8 * n) (by rw [Int.pow_mul]; exact hlt)
  refine Evn.succ (h := fun k => (number_Len.f k l).bind fun t620 => (if t620 > (wrap64 (8 * (n : Int))) then (some (([] : List Int), 11)) else (if 0 ≤ (n : Int) then (if ((n : Int) : Int).toNat ≤ 281474976710656 then ((some (List.replicate ((n : Int) : Int).toNat 0 : List Int)).bind fun y621 => (number_Bytes.l0 k l y621 (y621.length : Int) 0)) else (none)) else (none)))) (fun k => by rw [number_Bytes.j0, if_neg (by decide)]) (Evn.bind (len_ev l h hl) (Evn.congr (fun k => ?_) h4))
  rw [w64 (8 * (n : Int)) (by omega) (by omega), if_neg (by omega), if_pos (by omega), if_pos (by omega), bsome, Int.toNat_natCast, List.length_replicate]
  rfl
theorem nbytes_range (l : List Int) (n : Int) (h : n < 0 ∨ 65536 < n) : Evn (fun k => number_Bytes.f k l n) (([] : List Int), (10 : Int)) := by
  have hT : Evn (fun k => number_Bytes.j0 k l n true) (([] : List Int), (10 : Int)) := Evn.succ (h := fun _ => some ([], 10)) (fun k => by rw [number_Bytes.j0, if_pos rfl]) (Evn.of fun _ => rfl)
  refine Evn.congr (fun k => ?_) hT
  unfold number_Bytes.f
  by_cases h0 : n < 0
  · rw [if_pos h0]
  · rw [if_neg h0, decide_eq_true (by omega)]
theorem nbytes_size (l : List Int) (h : dg 18446744073709551616 l) (hl : l.length ≤ 1073741824) (n : Nat) (hn : n ≤ 65536) (hlt : 256 ^ n ≤ vl 18446744073709551616 l) : Evn (fun k => number_Bytes.f k l (n : Int)) (([] : List Int), (11 : Int)) := by
  have hv := vl_nonneg h B0
  refine Evn.congr (fun k => by unfold number_Bytes.f; rw [if_neg (by omega), decide_eq_false (by omega)]) ?_
  have hnb : ¬ nbit (vl 18446744073709551616 l) ≤ 8 * n := fun e => by
    have := (nbit_le_iff hv (8 * n)).1 (by omega)
    rw [Int.pow_mul] at this
    have e2 : ((2 : Int) ^ 8) ^ n = 256 ^ n := rfl
    omega
  refine Evn.succ (h := fun k => (number_Len.f k l).bind fun t620 => (if t620 > (wrap64 (8 * (n : Int))) then (some (([] : List Int), 11)) else (if 0 ≤ (n : Int) then (if ((n : Int) : Int).toNat ≤ 281474976710656 then ((some (List.replicate ((n : Int) : Int).toNat 0 : List Int)).bind fun y621 => (number_Bytes.l0 k l y621 (y621.length : Int) 0)) else (none)) else (none)))) (fun k => by rw [number_Bytes.j0, if_neg (by decide)]) (Evn.bind (len_ev l h hl) (Evn.of fun k => ?_))
  rw [w64 (8 * (n : Int)) (by omega) (by omega), if_pos (by omega)]
end Go.Proofs.Ytdaehflffecllaa.A
