/- What the reference's sums, differences and products of bytes come to, and when a number is that of bytes. -/
import Derived.Test.YtdaehflffecllaaNx4
import Derived.Test.YtdaehflffecllaaNx5
import Derived.Test.YtdaehflffecllaaA4
namespace Go.Proofs.Ytdaehflffecllaa.A
open Go.RowKit Go.Proofs.YtdaehflffecllaaW.PrintWords Go.Proofs.Ytdaehflffecllaa.N Go.Proofs.Ytdaehflffecllaa.T

theorem beq_loop (l m : List Int) (hl : l.length ≤ 4611686018427387904) (hlm : l.length = m.length) : ∀ (d i : Nat), i + d = l.length → l.take i = m.take i → Evn (fun k => chicorylaw01_Bytes.l0 k l m i) (decide (l = m)) := by
  intro d
  induction d with
  | zero =>
    intro i hi h
    rw [List.take_of_length_le (by omega), List.take_of_length_le (by omega)] at h
    refine Evn.succ (h := fun _ => some true) (fun k => by rw [chicorylaw01_Bytes.l0, if_neg (by omega)]) (Evn.of fun _ => ?_)
    rw [decide_eq_true h]
  | succ d ih =>
    intro i hi h
    by_cases he : rd l (i : Int) = rd m (i : Int)
    · refine Evn.succ (fun k => ?_) (ih (i + 1) (by omega) (by rw [take_rd l i (by omega), take_rd m i (by omega), h, he]))
      rw [chicorylaw01_Bytes.l0, if_pos (by omega), if_pos (by omega), if_pos (by omega), if_pos he, w64 _ (by omega) (by omega)]; rfl
    · refine Evn.succ (h := fun _ => some false) (fun k => by rw [chicorylaw01_Bytes.l0, if_pos (by omega), if_pos (by omega), if_pos (by omega), if_neg he]) (Evn.of fun _ => ?_)
      rw [decide_eq_false (fun e => he (by rw [e]))]
theorem beq_ev (l m : List Int) (hl : l.length ≤ 4611686018427387904) : Evn (fun k => chicorylaw01_Bytes.f k l m) (decide (l = m)) := by
  by_cases h : l.length = m.length
  · refine Evn.congr (fun k => ?_) (beq_loop l m hl h l.length 0 (by omega) rfl)
    unfold chicorylaw01_Bytes.f
    rw [if_pos (by omega)]; rfl
  · refine Evn.of fun k => ?_
    unfold chicorylaw01_Bytes.f
    rw [if_neg (by omega), decide_eq_false (fun e => h (by rw [e]))]
/-- A number is that of bytes. -/
theorem is_ev (n : Int) (hn : 0 ≤ n) (b : List Int) (hb : dg 256 b) (hl : (dgs 18446744073709551616 n).length ≤ 1073741824) (hbl : b.length ≤ 1073741824) (h : n = vl 256 b) : Evn (fun k => chicorylaw03_is.f k (dgs 18446744073709551616 n) b) true := by
  have hd := dgs_dg B2 n hn
  have hB := bytes_ev (dgs 18446744073709551616 n) hd (by omega)
  have hC := rcut_ev b (by omega)
  rw [vl_dgs B2 n hn] at hB
  rw [cut_dgs C2 b hb, ← h] at hC
  have hlen : (dgs 256 n).length ≤ 8 * (dgs 18446744073709551616 n).length := dgs_len_le C2 _ hn _ (by rw [Int.pow_mul]; have := vl_lt hd B0; rw [vl_dgs B2 n hn] at this; exact this)
  have hE := beq_ev (dgs 256 n) (dgs 256 n) (by omega)
  rw [decide_eq_true rfl] at hE
  refine Evn.congr (fun k => by rw [chicorylaw03_is.f]) (Evn.bind hB (Evn.bind hC (Evn.bind hE ?_)))
  refine Evn.of fun k => ?_
  rw [if_pos rfl]
  rcases snoc_cases (dgs 18446744073709551616 n) with hz | ⟨m, x, hm⟩
  · rw [hz]; rfl
  · have hx := dgs_last B2 n hn m x hm
    rw [hm] at hl ⊢
    simp only [List.length_append, List.length_singleton] at hl ⊢
    have hr : rd (m ++ [x]) (m.length : Int) = x := by rw [rd_get _ _ (by simp)]; simp
    rw [if_neg (by omega), w64 _ (by omega) (by omega), if_pos (by omega), if_pos (by omega), show ((m.length + 1 : Nat) : Int) - 1 = (m.length : Int) by omega, hr]
    rw [bne_iff_ne.2 hx]

theorem radd_step (a b : List Int) (ha : dg 256 a) (hb : dg 256 b) (i : Nat) (hi : i ≤ 1099511627776) (out : List Int) (hol : out.length = i) (c : Int) (hc : 0 ≤ c) (hc1 : c ≤ 1) (r : List Int)
    (H : Evn (fun k => chicoryref03_Add.l0 k a b (out ++ [(c + rd a (i : Int) + rd b (i : Int)) % 256]) ((c + rd a (i : Int) + rd b (i : Int)) / 256) ((i + 1 : Nat) : Int)) r) :
    Evn (fun k => chicoryref03_Add.j1 k a b out c (i : Int) true) r := by
  have ra := rd_bd ha C0 i
  have rb := rd_bd hb C0 i
  refine Evn.succ (fun k => ?_) H
  rw [chicoryref03_Add.j1, if_pos rfl, rat_nn a ha, rat_nn b hb]
  simp only [Option.bind_some]
  rw [if_pos (by omega), w64 (c + rd a (i : Int)) (by omega) (by omega), w64 (c + rd a (i : Int) + rd b (i : Int)) (by omega) (by omega), Int.tmod_eq_emod_of_nonneg (by omega), Int.tdiv_eq_ediv_of_nonneg (by omega), w64 _ (by omega) (by omega), w64 _ (by omega) (by omega)]
  rw [show (c + rd a (i : Int) + rd b (i : Int)) % 256 % 256 = (c + rd a (i : Int) + rd b (i : Int)) % 256 by omega]
  rfl
theorem radd_alg (p s q c x y V1 V2 V3 : Int) (h : V1 + p * c = V2 + V3) (e : s + 256 * q = c + x + y) : V1 + p * s + p * 256 * q = V2 + p * x + (V3 + p * y) := by grind
theorem radd_fin (a b out : List Int) (i : Nat) (hi : ¬ ((i : Int) < ((max a.length b.length : Nat) : Int))) (hl : out.length ≤ 1099511627776) : Evn (fun k => chicoryref03_Add.l0 k a b out 0 (i : Int)) (cutL out) := by
  refine Evn.succ (h := fun k => chicoryref03_Add.j1 k a b out 0 (i : Int) false) (fun k => by rw [chicoryref03_Add.l0, max_nat, if_neg hi]; rfl) ?_
  refine Evn.succ (h := fun k => (chicoryref03_Cut.f k out).bind fun t287 => (some t287)) (fun k => by rw [chicoryref03_Add.j1, if_neg (by decide)]) ?_
  exact Evn.bind (rcut_ev out (by omega)) (Evn.of fun _ => rfl)
theorem radd_loop (a b : List Int) (ha : dg 256 a) (hb : dg 256 b) (hal : a.length ≤ 1073741824) (hbl : b.length ≤ 1073741824) : ∀ (d i : Nat) (out : List Int) (c : Int), i + d = max a.length b.length → out.length = i → dg 256 out → 0 ≤ c → c ≤ 1 →
    vl 256 out + 256 ^ i * c = vl 256 (a.take i) + vl 256 (b.take i) → Evn (fun k => chicoryref03_Add.l0 k a b out c (i : Int)) (dgs 256 (vl 256 a + vl 256 b)) := by
  intro d
  induction d with
  | zero =>
    intro i out c hi ho hd hc hc1 h
    rw [List.take_of_length_le (by omega), List.take_of_length_le (by omega)] at h
    by_cases hz : c = 0
    · subst hz
      have := radd_fin a b out i (by omega) (by omega)
      rwa [cut_eq C2 hd (show vl 256 out = vl 256 a + vl 256 b by omega)] at this
    · obtain rfl : c = 1 := by omega
      have e1 := rd_beyond a i (by omega)
      have e2 := rd_beyond b i (by omega)
      have := radd_fin a b (out ++ [1]) (i + 1) (by omega) (by simp; omega)
      rw [cut_eq C2 (dg_append hd (dg_one (by omega) (by omega))) (show vl 256 (out ++ [1]) = vl 256 a + vl 256 b by rw [vl_append, vl_one, ho]; exact h)] at this
      have s := radd_step a b ha hb i (by omega) out ho 1 (by omega) (by omega) (dgs 256 (vl 256 a + vl 256 b)) (by rw [e1, e2]; exact this)
      refine Evn.succ (fun k => ?_) s
      rw [chicoryref03_Add.l0, max_nat, if_neg (by omega)]; rfl
  | succ d ih =>
    intro i out c hi ho hd hc hc1 h
    have ra := rd_bd ha C0 i
    have rb := rd_bd hb C0 i
    have e := Int.emod_add_mul_ediv (c + rd a (i : Int) + rd b (i : Int)) 256
    have s := radd_step a b ha hb i (by omega) out ho c hc hc1 (dgs 256 (vl 256 a + vl 256 b)) (ih (i + 1) _ _ (by omega) (by simp; omega) (dg_append hd (dg_one (by omega) (by omega))) (by omega) (by omega) (by
      rw [vl_append, vl_one, ho, vl_take_succ, vl_take_succ, Int.pow_succ]
      exact radd_alg _ _ _ c _ _ _ _ _ h e))
    refine Evn.succ (fun k => ?_) s
    rw [chicoryref03_Add.l0, max_nat, if_pos (by omega)]
theorem radd_ev (a b : List Int) (ha : dg 256 a) (hb : dg 256 b) (hal : a.length ≤ 1073741824) (hbl : b.length ≤ 1073741824) : Evn (fun k => chicoryref03_Add.f k a b) (dgs 256 (vl 256 a + vl 256 b)) :=
  Evn.congr (fun _ => rfl) (radd_loop a b ha hb hal hbl (max a.length b.length) 0 [] 0 (by omega) rfl dg_nil (by omega) (by omega) (by simp [vl]))

theorem rsub_alg (p s q c x y V1 V2 V3 : Int) (h : V1 - p * c = V2 - V3) (e : s = x - y - c + 256 * q) : V1 + p * s - p * 256 * q = V2 + p * x - (V3 + p * y) := by grind
theorem rsub_loop (a b : List Int) (ha : dg 256 a) (hb : dg 256 b) (hal : a.length ≤ 1073741824) (hle : vl 256 b ≤ vl 256 a) : ∀ (d i : Nat) (out : List Int) (c : Int), i + d = a.length → out.length = i → dg 256 out → 0 ≤ c → c ≤ 1 →
    vl 256 out - 256 ^ i * c = vl 256 (a.take i) - vl 256 (b.take i) → Evn (fun k => chicoryref03_Sub.l0 k a b out c (i : Int)) (dgs 256 (vl 256 a - vl 256 b)) := by
  intro d
  induction d with
  | zero =>
    intro i out c hi ho hd hc hc1 h
    obtain rfl : i = a.length := by omega
    have hav := vl_lt ha C0
    have hb0 := vl_nonneg hb C0
    have hbm : vl 256 (b.take a.length) = vl 256 b := by rw [← vl_mod hb C0]; exact Int.emod_eq_of_lt hb0 (by omega)
    rw [List.take_length, hbm] at h
    have hol := vl_lt hd C0
    rw [ho] at hol
    have hz : c = 0 := by
      generalize (256 : Int) ^ a.length = p at *
      by_cases hz : c = 0
      · exact hz
      · obtain rfl : c = 1 := by omega
        omega
    subst hz
    refine Evn.succ (h := fun k => (chicoryref03_Cut.f k out).bind fun t304 => (some t304)) (fun k => by rw [chicoryref03_Sub.l0, if_neg (by omega)]) ?_
    refine Evn.bind (rcut_ev out (by omega)) (Evn.of fun _ => ?_)
    rw [cut_eq C2 hd (show vl 256 out = vl 256 a - vl 256 b by omega)]
  | succ d ih =>
    intro i out c hi ho hd hc hc1 h
    have ra := rd_bd ha C0 i
    have rb := rd_bd hb C0 i
    by_cases hlt : rd a (i : Int) - rd b (i : Int) - c < 0
    · refine Evn.succ (fun k => ?_) (ih (i + 1) (out ++ [rd a (i : Int) - rd b (i : Int) - c + 256]) 1 (by omega) (by simp; omega) (dg_append hd (dg_one (by omega) (by omega))) (by omega) (by omega) (by
        rw [vl_append, vl_one, ho, vl_take_succ, vl_take_succ, Int.pow_succ]
        exact rsub_alg _ _ _ c _ _ _ _ _ h (by omega)))
      rw [chicoryref03_Sub.l0, if_pos (by omega), rat_nn a ha, rat_nn b hb]
      simp only [Option.bind_some]
      rw [w64 (rd a (i : Int) - rd b (i : Int)) (by omega) (by omega), w64 (rd a (i : Int) - rd b (i : Int) - c) (by omega) (by omega), if_pos hlt, if_pos (by omega), w64 _ (by omega) (by omega), w64 _ (by omega) (by omega), show (rd a (i : Int) - rd b (i : Int) - c + 256) % 256 = rd a (i : Int) - rd b (i : Int) - c + 256 by omega]
      rfl
    · refine Evn.succ (fun k => ?_) (ih (i + 1) (out ++ [rd a (i : Int) - rd b (i : Int) - c]) 0 (by omega) (by simp; omega) (dg_append hd (dg_one (by omega) (by omega))) (by omega) (by omega) (by
        rw [vl_append, vl_one, ho, vl_take_succ, vl_take_succ, Int.pow_succ]
        exact rsub_alg _ _ 0 c _ _ _ _ _ h (by omega)))
      rw [chicoryref03_Sub.l0, if_pos (by omega), rat_nn a ha, rat_nn b hb]
      simp only [Option.bind_some]
      rw [w64 (rd a (i : Int) - rd b (i : Int)) (by omega) (by omega), w64 (rd a (i : Int) - rd b (i : Int) - c) (by omega) (by omega), if_neg hlt, if_pos (by omega), w64 _ (by omega) (by omega), show (rd a (i : Int) - rd b (i : Int) - c) % 256 = rd a (i : Int) - rd b (i : Int) - c by omega]
      rfl
theorem rsub_ev (a b : List Int) (ha : dg 256 a) (hb : dg 256 b) (hal : a.length ≤ 1073741824) (hle : vl 256 b ≤ vl 256 a) : Evn (fun k => chicoryref03_Sub.f k a b) (dgs 256 (vl 256 a - vl 256 b)) :=
  Evn.congr (fun _ => rfl) (rsub_loop a b ha hb hal hle a.length 0 [] 0 (by omega) rfl dg_nil (by omega) (by omega) (by simp [vl]))

/-- One step of a row: the way through the loop whatever it was that let it on. -/
theorem rmul_step (a b : List Int) (ha : dg 256 a) (hb : dg 256 b) (i j : Nat) (hi : i < a.length) (hal : a.length ≤ 1073741824) (hj : j ≤ 1073741825) (out : List Int) (hol : i + j < out.length) (hd : dg 256 out) (c : Int) (hc : 0 ≤ c) (hc1 : c < 256) (hgo : j < b.length ∨ 0 < c) (r : List Int)
    (H : Evn (fun k => chicoryref03_Mul.l1 k a b (out.set (i + j) ((c + rd out ((i + j : Nat) : Int) + rd a (i : Int) * rd b (j : Int)) % 256)) (i : Int) ((c + rd out ((i + j : Nat) : Int) + rd a (i : Int) * rd b (j : Int)) / 256) ((j + 1 : Nat) : Int)) r) :
    Evn (fun k => chicoryref03_Mul.l1 k a b out (i : Int) c (j : Int)) r := by
  have ra := rd_bd ha C0 i
  have rb := rd_bd hb C0 j
  have ro := rd_bd hd C0 (i + j)
  have h0 : 0 ≤ rd a (i : Int) * rd b (j : Int) := Int.mul_nonneg ra.1 rb.1
  have h1 : rd a (i : Int) * rd b (j : Int) ≤ 255 * 255 := Int.mul_le_mul (by omega) (by omega) rb.1 (by omega)
  refine Evn.succ (fun k => ?_) H
  have e : ∀ x : List Int → Int → Int → Option (List Int), (if 0 ≤ (wrap64 ((i : Int) + (j : Int))) then (if (wrap64 ((i : Int) + (j : Int))) < (out.length : Int) then (if 0 ≤ (i : Int) then (if (i : Int) < (a.length : Int) then ((chicoryref03_at.f b (j : Int)).bind fun t298 => (x (out.set ((wrap64 ((i : Int) + (j : Int))) : Int).toNat ((Int.tmod (wrap64 ((wrap64 (c + (wrap64 (rd out (wrap64 ((i : Int) + (j : Int))))))) + (wrap64 ((wrap64 (rd a (i : Int))) * t298)))) 256) % 256)) (wrap64 (Int.tdiv (wrap64 ((wrap64 (c + (wrap64 (rd out (wrap64 ((i : Int) + (j : Int))))))) + (wrap64 ((wrap64 (rd a (i : Int))) * t298)))) 256)) (wrap64 ((j : Int) + 1)))) else (none)) else (none)) else (none)) else (none)) = x (out.set (i + j) ((c + rd out ((i + j : Nat) : Int) + rd a (i : Int) * rd b (j : Int)) % 256)) ((c + rd out ((i + j : Nat) : Int) + rd a (i : Int) * rd b (j : Int)) / 256) ((j + 1 : Nat) : Int) := by
    intro x
    rw [w64 ((i : Int) + (j : Int)) (by omega) (by omega), if_pos (by omega), if_pos (by omega), if_pos (by omega), if_pos (by omega), rat_nn b hb, bsome, show (i : Int) + (j : Int) = ((i + j : Nat) : Int) by omega, Int.toNat_natCast]
    generalize rd out ((i + j : Nat) : Int) = o at *
    rw [w64 (rd a (i : Int)) (by omega) (by omega), w64 o (by omega) (by omega)]
    generalize rd a (i : Int) * rd b (j : Int) = p at *
    rw [w64 (c + o) (by omega) (by omega), w64 p (by omega) (by omega), w64 (c + o + p) (by omega) (by omega), Int.tmod_eq_emod_of_nonneg (by omega), Int.tdiv_eq_ediv_of_nonneg (by omega), w64 _ (by omega) (by omega), w64 _ (by omega) (by omega), show (c + o + p) % 256 % 256 = (c + o + p) % 256 by omega]
    rfl
  rw [chicoryref03_Mul.l1]
  by_cases hb1 : (j : Int) < (b.length : Int)
  · rw [if_pos hb1]
    exact e (fun l q t => chicoryref03_Mul.l1 k a b l (i : Int) q t)
  · rw [if_neg hb1, if_pos (show c > 0 by omega)]
    exact e (fun l q t => chicoryref03_Mul.l1 k a b l (i : Int) q t)
theorem rmul_alg (p p2 s q c x y o V1 V2 V3 : Int) (h : V1 + p * p2 * c = V2 + p * (x * V3)) (e : s + 256 * q = c + o + x * y) :
    V1 + p * p2 * s + p * p2 * 256 * q = V2 + p * p2 * o + p * (x * (V3 + p2 * y)) := by grind
theorem rmul_row (a b : List Int) (ha : dg 256 a) (hb : dg 256 b) (i : Nat) (hi : i < a.length) (hal : a.length ≤ 1073741824) (hbl : b.length ≤ 1073741824) (old : List Int) (hold : dg 256 old) (hol : old.length = a.length + b.length + 1) (hov : vl 256 old < 256 ^ (i + b.length)) (r : List Int)
    (H : ∀ o : List Int, o.length = old.length → dg 256 o → vl 256 o = vl 256 old + 256 ^ i * (rd a (i : Int) * vl 256 b) → Evn (fun k => chicoryref03_Mul.l0 k a b o ((i : Int) + 1)) r) :
    ∀ (d j : Nat) (out : List Int) (c : Int), j + d = b.length → out.length = old.length → dg 256 out → 0 ≤ c → c < 256 → out.drop (i + j) = old.drop (i + j) →
    vl 256 (out.take (i + j)) + 256 ^ (i + j) * c = vl 256 (old.take (i + j)) + 256 ^ i * (rd a (i : Int) * vl 256 (b.take j)) →
    Evn (fun k => chicoryref03_Mul.l1 k a b out (i : Int) c (j : Int)) r := by
  have rdd : ∀ (l : List Int) (m : Nat), rd l (m : Int) = rd (l.drop m) ((0 : Nat) : Int) := fun l m => by
    rw [rd_cast, rd_cast, List.getD_eq_getElem?_getD, List.getD_eq_getElem?_getD, List.getElem?_drop]; rfl
  have fin : ∀ (out : List Int) (t : Nat), b.length ≤ t → Evn (fun k => chicoryref03_Mul.l0 k a b out ((i : Int) + 1)) r → Evn (fun k => chicoryref03_Mul.l1 k a b out (i : Int) 0 (t : Int)) r := fun out t ht h => by
    refine Evn.succ (fun k => ?_) h
    rw [chicoryref03_Mul.l1, if_neg (by omega), if_neg (by omega), w64 _ (by omega) (by omega)]
  have hz : ∀ t : Nat, i + b.length ≤ t → vl 256 (old.drop t) = 0 := fun t ht => by
    rw [← vl_div hold C0]
    exact Int.ediv_eq_zero_of_lt (vl_nonneg hold C0) (by have := pow_le C0 ht; omega)
  intro d
  induction d with
  | zero =>
    intro j out c hj ho hd hc hc1 hdr hv
    obtain rfl : j = b.length := by omega
    rw [List.take_length] at hv
    have ho1 := vl_split (B := 256) old (i + b.length)
    rw [hz _ (Nat.le_refl _)] at ho1
    by_cases hcz : c = 0
    · subst hcz
      refine fin out b.length (Nat.le_refl _) (H out ho hd ?_)
      rw [vl_split out (i + b.length), hdr, hz _ (Nat.le_refl _)]
      omega
    · have ro : rd out ((i + b.length : Nat) : Int) = 0 := by
        rw [rdd, hdr, ← rdd, rd_vl hold C0, vl_div hold C0, hz _ (Nat.le_refl _)]; rfl
      have rb := rd_beyond b b.length (Nat.le_refl _)
      refine rmul_step a b ha hb i b.length hi hal (by omega) out (by omega) hd c hc hc1 (.inr (by omega)) r ?_
      rw [ro, rb, Int.mul_zero, show c + 0 + 0 = c by omega, show c % 256 = c by omega, show c / 256 = 0 by omega]
      refine fin _ _ (by omega) (H _ (by rw [List.length_set]; exact ho) (dg_set hd hc hc1) ?_)
      rw [vl_split (out.set (i + b.length) c) (i + b.length + 1), vl_set_take _ _ _ (by omega), List.drop_set_of_lt (by omega), show out.drop (i + b.length + 1) = old.drop (i + b.length + 1) by rw [← List.drop_drop, hdr, List.drop_drop], hz _ (by omega)]
      omega
  | succ d ih =>
    intro j out c hj ho hd hc hc1 hdr hv
    have ra := rd_bd ha C0 i
    have rb := rd_bd hb C0 j
    have ro := rd_bd hd C0 (i + j)
    have h0 : 0 ≤ rd a (i : Int) * rd b (j : Int) := Int.mul_nonneg ra.1 rb.1
    have h1 : rd a (i : Int) * rd b (j : Int) ≤ 255 * 255 := Int.mul_le_mul (by omega) (by omega) rb.1 (by omega)
    have hs : rd out ((i + j : Nat) : Int) = rd old ((i + j : Nat) : Int) := by rw [rdd, hdr, ← rdd]
    refine rmul_step a b ha hb i j hi hal (by omega) out (by omega) hd c hc hc1 (.inl (by omega)) r (ih (j + 1) _ _ (by omega) (by rw [List.length_set]; exact ho) (dg_set hd (by omega) (by omega)) (by omega) (by omega) ?_ ?_)
    · rw [show i + (j + 1) = i + j + 1 by omega, List.drop_set_of_lt (by omega), ← List.drop_drop, hdr, List.drop_drop]
    · have e := Int.emod_add_mul_ediv (c + rd out ((i + j : Nat) : Int) + rd a (i : Int) * rd b (j : Int)) 256
      have hv2 := hv
      rw [Int.pow_add] at hv2
      have key := rmul_alg (256 ^ i) (256 ^ j) _ _ c (rd a (i : Int)) (rd b (j : Int)) (rd out ((i + j : Nat) : Int)) _ _ _ hv2 e
      rw [show i + (j + 1) = i + j + 1 by omega, vl_set_take _ _ _ (by omega), vl_take_succ old, vl_take_succ b, ← hs, Int.pow_succ, Int.pow_add]
      exact key
theorem rmul_loop (a b : List Int) (ha : dg 256 a) (hb : dg 256 b) (hal : a.length ≤ 1073741824) (hbl : b.length ≤ 1073741824) : ∀ (d i : Nat) (out : List Int), i + d = a.length → out.length = a.length + b.length + 1 → dg 256 out → vl 256 out = vl 256 (a.take i) * vl 256 b →
    Evn (fun k => chicoryref03_Mul.l0 k a b out (i : Int)) (dgs 256 (vl 256 a * vl 256 b)) := by
  intro d
  induction d with
  | zero =>
    intro i out hi ho hd hv
    obtain rfl : i = a.length := by omega
    rw [List.take_length] at hv
    refine Evn.succ (h := fun k => (chicoryref03_Cut.f k out).bind fun t293 => (some t293)) (fun k => by rw [chicoryref03_Mul.l0, if_neg (by omega)]) ?_
    refine Evn.bind (rcut_ev out (by omega)) (Evn.of fun _ => ?_)
    rw [cut_eq C2 hd hv]
  | succ d ih =>
    intro i out hi ho hd hv
    have hlt : vl 256 out < 256 ^ (i + b.length) := by
      rw [hv, Int.pow_add]
      have h1 := vl_take_bd ha C0 i
      have h2 := vl_lt hb C0
      have h3 := vl_nonneg hb C0
      have h4 := pow_pos C0 i
      have h5 : vl 256 (a.take i) * vl 256 b ≤ 256 ^ i * vl 256 b := Int.mul_le_mul_of_nonneg_right (by omega) h3
      have h6 : 256 ^ i * (vl 256 b + 1) ≤ 256 ^ i * 256 ^ b.length := Int.mul_le_mul_of_nonneg_left (by omega) (by omega)
      rw [Int.mul_add] at h6
      omega
    have k1 := rmul_row a b ha hb i (by omega) hal hbl out hd ho hlt (dgs 256 (vl 256 a * vl 256 b)) (fun o h1 h2 h3 => by
      refine Evn.congr (fun k => by rw [show (i : Int) + 1 = ((i + 1 : Nat) : Int) by omega]) (ih (i + 1) o (by omega) (by omega) h2 ?_)
      rw [h3, hv, vl_take_succ, Int.add_mul, Int.mul_assoc]) b.length 0 out 0 (by omega) rfl hd (by omega) (by omega) rfl (by simp [vl])
    refine Evn.succ (fun k => ?_) k1
    rw [chicoryref03_Mul.l0, if_pos (by omega)]
    rfl
theorem rmul_ev (a b : List Int) (ha : dg 256 a) (hb : dg 256 b) (hal : a.length ≤ 1073741824) (hbl : b.length ≤ 1073741824) : Evn (fun k => chicoryref03_Mul.f k a b) (dgs 256 (vl 256 a * vl 256 b)) := by
  refine Evn.congr (fun k => ?_) (rmul_loop a b ha hb hal hbl a.length 0 (List.replicate (a.length + b.length + 1) 0) (by omega) (by simp) (dg_replicate C0 _) (by rw [vl_zeros]; simp [vl]))
  unfold chicoryref03_Mul.f
  rw [w64 ((a.length : Int) + (b.length : Int)) (by omega) (by omega), w64 _ (by omega) (by omega), if_pos (by omega), if_pos (by omega), show (a.length : Int) + (b.length : Int) + 1 = ((a.length + b.length + 1 : Nat) : Int) by omega, Int.toNat_natCast]
  rfl
end Go.Proofs.Ytdaehflffecllaa.A
