/- X448 of a secret number and a point's u is the u of that number times the point (the law TopCurves): part 13 of 22 of its proof: the tape, going down through places. No condition. -/
import Derived.Test.YtkiaodihfofbnaaGreatDoorM11
set_option linter.unusedVariables false
set_option linter.unusedSimpArgs false
namespace Go.Proofs.YtkiaodihfofbnaaGreatDoor.X
open Go Go.RowKit
set_option maxRecDepth 100000

/-- Events. -/
def rwE : Rw where
  α := Int × Int
  at_ := fun l => .r .i64 (l.flatMap fun p => [p.1, p.2])
  enc := fun p => [.int .i64 p.1, .int .i64 p.2]
  size := 2
  zero := (0, 0)
  zv := .int .i64 0
  pos := by decide
  cells := fun ρ l => by
    show (l.flatMap fun p => [p.1, p.2]).map (Value.int .i64) = _
    induction l with
    | nil => rfl
    | cons x l ih => rw [List.flatMap_cons, List.map_append, ih, List.flatMap_cons]; rfl
  ids := fun _ => rfl
  len := fun _ => rfl
  ok := fun x v hv => by
    simp only [List.mem_cons, List.not_mem_nil, or_false] at hv
    rcases hv with rfl | rfl <;> rfl
  zero_enc := rfl
theorem rwTE : RwT Tryz.prog rwE 83 158 16 := rwT_of (by kernel_rfl) (by kernel_rfl)
abbrev tpB (s : At) : Blk := ⟨[s], 116, false, true⟩
abbrev evB (l sp : List (Int × Int)) : Blk := blk2 rwE 158 l sp
/-- The tape's slice: nil, or a row of its own. -/
def TpAt (k : Nat) (ρ : Rho) (n : Nat) (s : At) (r : Option Blk) (l : List (Int × Int)) : Prop :=
  (s = .v (.slice none 0 0) ∧ r = none ∧ l = []) ∨ (∃ sp, s = .s k n none ∧ r = some (evB l sp) ∧ (ρ k).2 = n + sp.length)
theorem fun95 : Fun Tryz.prog 95 Tryz.f95 := ⟨Tryz.func95, by kernel_rfl, by kernel_rfl⟩
noncomputable def ops95 : Array Oper := match (Tryz.f95.body).getD .skip with
  | .region _ ops _ => ops
  | _ => #[]
theorem note_calls {w0 : Base} {w : World} {ρ : Rho} {s : At} {r : Option Blk} {l : List (Int × Int)} {n : Nat} (hl : l.length = n) (hn : n < 1000000) (k m : Int) (h : TpAt 1 ρ n s r l) (hR : Ref w0 ρ w (lk [some (tpB s), r])) :
    Calls Tryz.prog 95 (argsV ρ [ptr 0, I1 .i64 k, I1 .i64 m]) w fun e w' => ∃ ρ' sp', e = .returned ((AV.tup []).val ρ') ∧ ρ' 0 = ρ 0 ∧ (ρ' 1).2 = n + 1 + List.length (α := Int × Int) sp' ∧ Ref w0 ρ' w' (lk [some (tpB (.s 1 (n + 1) none)), some (evB (l ++ [(k, m)]) sp')]) := by
  refine fun_wp (H := [some (tpB s), r]) fun95.at_ (c := (Tryz.f95.body).getD .skip) rfl (by rcases h with ⟨rfl, rfl, rfl⟩ | ⟨sp, rfl, rfl, _⟩ <;> kernel_rfl) hR fun a hs => ?_
  change (Code.region _ ops95 false).wp _ _ _ _
  refine region_op (sy := false) spOk_nil 9 rfl rfl (T1 := mkA [(0, ptr 0), (1, I1 .i64 k), (2, I1 .i64 m), (6, ptr 0), (7, ptr 0), (8, ptr 0), (9, ptr 0), (10, .g (.a s)), (11, I1 .i64 k), (12, I1 .i64 m), (13, .g (.agg [.v (.int .i64 k), .v (.int .i64 m)])), (14, .g (.a (.s 2 1 (some 1))))] 18 0)
    (H1 := [some (tpB s), r, some ⟨[.v (.int .i64 k), .v (.int .i64 m)], 158, false, true⟩]) (O1 := []) (by rcases h with ⟨rfl, rfl, rfl⟩ | ⟨sp, rfl, rfl, _⟩ <;> kernel_rfl) met0 hs fun ρ1 a1 w1 hag s1 => ?_
  have h0 : ρ1 0 = ρ 0 := hag 0 (by show 0 < 2; decide)
  have h1 : ρ1 1 = ρ 1 := hag 1 (by show 1 < 2; decide)
  have e10 : a1.eval (.tmp 10) = s.val ρ1 := evalT_sound s1.rel (x := .tmp 10) (v := .g (.a s)) rfl
  have e14 : a1.eval (.tmp 14) = .slice (some ⟨(ρ1 2).1, 0, none⟩) 1 1 := evalT_sound s1.rel (x := .tmp 14) (v := .g (.a (.s 2 1 (some 1)))) rfl
  -- the tape's slice, told by its value
  have hR2 : Ref w0 ρ1 w1 (lk [some (tpB (.v (s.val ρ1))), r, some ⟨[.v (.int .i64 k), .v (.int .i64 m)], 158, false, true⟩]) := by
    refine s1.ref.less fun j b' hj => ?_
    match j, hj with
    | 0, hj =>
      obtain rfl := Option.some.inj hj
      refine ⟨_, rfl, rfl, fun hh => ?_⟩
      obtain ⟨rest, hr, hx⟩ := hh
      refine ⟨rest, hr, ?_⟩
      rw [hx]
      have : flat ρ1 [s] = flat ρ1 [.v (s.val ρ1)] := by rcases h with ⟨rfl, rfl, rfl⟩ | ⟨sp, rfl, rfl, _⟩ <;> rfl
      show some (Obj.cells (flat ρ1 [s] ++ rest).toArray 116 (0, 0)) = some (Obj.cells (flat ρ1 [.v (s.val ρ1)] ++ rest).toArray 116 (0, 0))
      rw [this]
    | 1, hj => exact ⟨b', hj, rfl, id⟩
    | 2, hj => exact ⟨b', hj, rfl, id⟩
  obtain ⟨ρ2, w2, sp2, r1, r2, r3, r4⟩ := append_core (P := Tryz.prog) rwE (ty := 83) rwTE hR2 (k := 1) (n := n) (m := 1) (l := l) (ns := [(k, m)]) hl rfl (by decide) (sv := s.val ρ1)
    (by rcases h with ⟨rfl, rfl, rfl⟩ | ⟨sp, rfl, rfl, hc⟩
        · exact .inl ⟨rfl, rfl⟩
        · exact .inr (.inr ⟨sp, rfl, rfl, by rw [h1]; exact hc⟩)) (kb := 2) (c := 1) (b := ⟨[.v (.int .i64 k), .v (.int .i64 m)], 158, false, true⟩) rfl ⟨[], rfl⟩
    (fun k' b' hk' hne => by
      match k', hk' with
      | 0, hk' => obtain rfl := Option.some.inj hk'; simp [idsA, At.ids]
      | 1, hk' => exact absurd rfl hne
      | 2, hk' => obtain rfl := Option.some.inj hk'; simp [idsA, At.ids]) (by show (n + 1) * 16 ≤ _; omega) (by omega)
  refine wp_value (v := (At.s 1 (n + 1) none).val ρ2) (w' := w2) ?_ ?_
  · simp [execOp, resolve, invoke, builtin, e10, e14, r1]
  · have sc := s1.cut (ts := [6]) (ks := []) (hl := 2) (by rcases h with ⟨rfl, rfl, rfl⟩ | ⟨sp, rfl, rfl, _⟩ <;> kernel_rfl)
    have hT : lk (mkA [(6, ptr 0)] 18 0 : List (Option AV)) = lk (maskAt 0 (mkA [(0, ptr 0), (1, I1 .i64 k), (2, I1 .i64 m), (6, ptr 0), (7, ptr 0), (8, ptr 0), (9, ptr 0), (10, .g (.a s)), (11, I1 .i64 k), (12, I1 .i64 m), (13, .g (.agg [.v (.int .i64 k), .v (.int .i64 m)])), (14, .g (.a (.s 2 1 (some 1))))] 18 0 : List (Option AV)) [6]) := by kernel_rfl
    have hrel : Rel ρ1 a1 18 (lk (mkA [(6, ptr 0)] 18 0 : List (Option AV))) := by rw [hT]; exact sc.rel
    have hrel2 := Rel.put (kn := 1) (ρ' := ρ2) hrel r2 (fun t v hv hm => by
      have : v = ptr 0 := by
        have hlt := lk_lt hv
        have h18 : t < 18 := hlt
        have hc : t = 0 ∨ t = 1 ∨ t = 2 ∨ t = 3 ∨ t = 4 ∨ t = 5 ∨ t = 6 ∨ t = 7 ∨ t = 8 ∨ t = 9 ∨ t = 10 ∨ t = 11 ∨ t = 12 ∨ t = 13 ∨ t = 14 ∨ t = 15 ∨ t = 16 ∨ t = 17 := by omega
        rcases hc with rfl | rfl | rfl | rfl | rfl | rfl | rfl | rfl | rfl | rfl | rfl | rfl | rfl | rfl | rfl | rfl | rfl | rfl <;> first | (cases hv; done) | exact (Option.some.inj hv).symm
      rw [this] at hm
      simp [AV.ids, AV.atoms, G.atoms, idsA, At.ids] at hm) (dst := some 15) (v := rowS 1 (n + 1)) (eff := []) (foot := []) (ob := []) (fun d hd => by obtain rfl := Option.some.inj hd; decide)
    have hT2 : updT (lk (mkA [(6, ptr 0)] 18 0 : List (Option AV))) ⟨some 15, rowS 1 (n + 1), [], [], []⟩ = lk (mkA [(6, ptr 0), (15, rowS 1 (n + 1))] 18 0) := by
      rw [← lk_setT (fun d hd => by obtain rfl := Option.some.inj hd; show 15 < 18; decide)]; rfl
    rw [hT2] at hrel2
    have hH2 : updH (lk [some (tpB (.v (s.val ρ1))), r, some ⟨[.v (.int .i64 k), .v (.int .i64 m)], 158, false, true⟩]) [(1, ⟨[rwE.at_ (l ++ [(k, m)]), rwE.at_ sp2], 158, false, true⟩)] = lk [some (tpB (.v (s.val ρ1))), some (evB (l ++ [(k, m)]) sp2), some ⟨[.v (.int .i64 k), .v (.int .i64 m)], 158, false, true⟩] := by
      rw [← lk_setH]; rfl
    have r5 : Ref w0 ρ2 w2 (lk [some (tpB (.v (s.val ρ1))), some (evB (l ++ [(k, m)]) sp2), some ⟨[.v (.int .i64 k), .v (.int .i64 m)], 158, false, true⟩]) := by rw [← hH2]; exact r4
    clear r4 hH2 r1 e10 hR2
    generalize s.val ρ1 = sv at r5
    have s3 : StOk w0 ρ2 ⟨mkA [(6, ptr 0), (15, rowS 1 (n + 1))] 18 0, [some (tpB (.v sv)), some (evB (l ++ [(k, m)]) sp2), some ⟨[.v (.int .i64 k), .v (.int .i64 m)], 158, false, true⟩], []⟩ (a1.put (some 15) ((rowS 1 (n + 1)).val ρ2)) w2 := ⟨bndB_spec (by kernel_rfl), hrel2, r5⟩
    refine restA_sound (sy := false) (ts := []) (ks := [0, 1]) (hl := 2) (st' := ⟨mkA [] 18 0, [some (tpB (.s 1 (n + 1) none)), some (evB (l ++ [(k, m)]) sp2)], []⟩) spOk_nil (by kernel_rfl) met0 s3 fun ρ4 a4 w4 hρ4 s4 => ?_
    exact fun_end s4 (l := []) (by kernel_rfl) ⟨ρ4, sp2, rfl, by rw [hρ4 0 (by show 0 < 3; decide), r2 0 (by decide), h0], by rw [hρ4 1 (by show 1 < 3; decide)]; exact r3, s4.ref⟩ (.inr rfl)
end Go.Proofs.YtkiaodihfofbnaaGreatDoor.X
namespace Go.Proofs.YtkiaodihfofbnaaGreatDoor.X
open Go Go.RowKit
set_option maxRecDepth 100000

def okV (N mv : Nat) (i : Nat) (b0 b1 : Option Blk) : Bool := match b0, b1 with
  | some b0, some b1 => (b0.own == b1.own) && (!b1.own || ltAll N (idsA b1.cs))
  | some b0, none => !b0.own
  | none, some b1 => !b1.own || (i == mv && ltAll N (idsA b1.cs))
  | none, none => true
def okV2 (H0 H1 : List (Option Blk)) (mv : Nat) : Bool := (H1.length == H0.length) && (List.range H0.length).all fun i => okV H0.length mv i (lk H0 i) (lk H1 i)
def effV (σ : Nat → Nat) (H1 : List (Option Blk)) : List (Nat × Blk) := (List.range H1.length).filterMap fun i => match lk H1 i with
  | some b1 => if b1.own then some (σ i, b1.ren σ) else none
  | none => none
theorem effV_mem {σ : Nat → Nat} {H1 : List (Option Blk)} {k : Nat} {b : Blk} (h : (k, b) ∈ effV σ H1) : ∃ i b1, lk H1 i = some b1 ∧ b1.own = true ∧ k = σ i ∧ b = b1.ren σ := by
  unfold effV at h
  obtain ⟨i, hi, he⟩ := List.mem_filterMap.1 h
  split at he
  · rename_i b1 h1
    split at he
    · rename_i ho
      obtain ⟨rfl, rfl⟩ := Prod.mk.inj (Option.some.inj he)
      exact ⟨i, b1, h1, ho, rfl, rfl⟩
    · cases he
  · cases he
theorem mem_effV {σ : Nat → Nat} {H1 : List (Option Blk)} {i : Nat} {b1 : Blk} (h1 : lk H1 i = some b1) (ho : b1.own = true) : (σ i, b1.ren σ) ∈ effV σ H1 := by
  refine List.mem_filterMap.2 ⟨i, List.mem_range.2 (lk_lt h1), ?_⟩
  simp only [h1, ho, if_true]
theorem okV2_spec {H0 H1 : List (Option Blk)} {mv : Nat} (h : okV2 H0 H1 mv = true) : H1.length = H0.length ∧ (∀ i b0, lk H0 i = some b0 → b0.own = true → ∃ b1, lk H1 i = some b1 ∧ b1.own = true) ∧ (∀ i b1, lk H1 i = some b1 → b1.own = true → (i = mv ∧ lk H0 i = none ∨ ∃ b0, lk H0 i = some b0 ∧ b0.own = true) ∧ ∀ j ∈ idsA b1.cs, j < H0.length) := by
  unfold okV2 at h
  rw [Bool.and_eq_true, beq_iff_eq] at h
  obtain ⟨hl, h⟩ := h
  refine ⟨hl, fun i b0 h0 ho => ?_, fun i b1 h1 ho => ?_⟩
  · have := List.all_eq_true.1 h i (List.mem_range.2 (lk_lt h0))
    rw [h0] at this
    cases h1 : lk H1 i with
    | none => rw [h1] at this; simp [okV, ho] at this
    | some b1 =>
      rw [h1] at this
      simp only [okV, ho, Bool.and_eq_true, beq_iff_eq] at this
      exact ⟨b1, rfl, this.1.symm⟩
  · have := List.all_eq_true.1 h i (List.mem_range.2 (hl ▸ lk_lt h1))
    rw [h1] at this
    cases h0 : lk H0 i with
    | none =>
      rw [h0] at this
      simp only [okV, ho, Bool.not_true, Bool.false_or, Bool.and_eq_true, beq_iff_eq] at this
      exact ⟨.inl ⟨this.1, rfl⟩, ltAll_spec this.2⟩
    | some b0 =>
      rw [h0] at this
      simp only [okV, ho, Bool.not_true, Bool.false_or, Bool.and_eq_true, beq_iff_eq] at this
      exact ⟨.inr ⟨b0, rfl, this.1⟩, ltAll_spec this.2⟩

theorem frame2 {w0 : Base} {w : World} {ρ : Rho} {H : View} (hR : Ref w0 ρ w H) (H0 : List (Option Blk)) (σ : Nat → Nat) (mv : Nat) (hmvN : mv < H0.length)
    (hH : ∀ i b0, lk H0 i = some b0 → ∃ b, H (σ i) = some b ∧ b.cs = b0.cs.map (At.ren σ) ∧ b.t = b0.t ∧ b.opn = b0.opn ∧ b.own = b0.own)
    (hmv : lk H0 mv = none → H (σ mv) = none) (hmo : ∀ b0, lk H0 mv = some b0 → b0.own = true) (hσ : ∀ i j, i < H0.length → j < H0.length → σ i = σ j → i = j)
    (hfree : ∀ k b, H k = some b → (∀ i b0, lk H0 i = some b0 → b0.own = true → σ i ≠ k) → σ mv ∉ idsA b.cs) :
    ∃ w1 : Base, Ref w1 (fun i => ρ (σ i)) w (lk H0) ∧ ∀ ρ' w' (H1 : List (Option Blk)), Ref w1 ρ' w' (lk H1) → okV2 H0 H1 mv = true → (∀ i, i < H0.length → i ≠ mv → ρ' i = ρ (σ i)) →
      Ref w0 (put1 ρ (σ mv) (ρ' mv).1 (ρ' mv).2) w' (updH H (effV σ H1)) := by
  let F' : Nat → Prop := fun g => w0.F g ∨ ∃ k b, H k = some b ∧ b.own = true ∧ (ρ k).1 = g ∧ ∀ i b0, lk H0 i = some b0 → b0.own = true → σ i ≠ k
  have hF' : ∀ g, F' g → g < w.heap.size := fun g hg => by
    rcases hg with hg | ⟨k, b, hk, _, rfl, _⟩
    · exact Nat.lt_of_lt_of_le (w0.lt g hg) hR.below.size
    · exact hR.lt hk
  let w1 : Base := ⟨w0.n, w, hR.below_le, F', hF'⟩
  have hR1 : Ref w1 (fun k => ρ (σ k)) w (lk H0) := by
    refine ⟨Below.refl _ _, fun i b0 hi => ?_, fun i b0 hi ho => ?_, fun i b0 hi ho => ?_, fun i j b b' hi hj ho ho' he => ?_, KeepsOthers.refl _, fun i b0 hi ho hF => ?_, fun _ _ => rfl⟩
    · obtain ⟨b, h1, h2, h3, h4, h5⟩ := hH i b0 hi
      obtain ⟨rest, hrest, hh⟩ := hR.holds _ _ h1
      refine ⟨rest, fun ho => hrest (h4.trans ho), ?_⟩
      show w.heap[(ρ (σ i)).1]? = _
      rw [hh, h2, h3, flat_ren]
    · obtain ⟨b, h1, h2, h3, h4, h5⟩ := hH i b0 hi
      exact hR.own _ _ h1 (h5.trans ho)
    · obtain ⟨b, h1, h2, h3, h4, h5⟩ := hH i b0 hi
      exact hR.ext _ _ h1 (h5.trans ho)
    · obtain ⟨c, h1, _, _, _, h5⟩ := hH i b hi
      obtain ⟨c', h1', _, _, _, h5'⟩ := hH j b' hj
      exact hσ i j (lk_lt hi) (lk_lt hj) (hR.inj _ _ _ _ h1 h1' (h5.trans ho) (h5'.trans ho') he)
    · obtain ⟨b, h1, h2, h3, h4, h5⟩ := hH i b0 hi
      rcases hF with hF | ⟨k, b', hk, hk', he, hne⟩
      · exact hR.free _ _ h1 (h5.trans ho) hF
      · exact hne i b0 hi ho (hR.inj _ _ _ _ h1 hk (h5.trans ho) hk' he.symm)
  refine ⟨w1, hR1, fun ρ' w' H1 hR' hok hag => ?_⟩
  obtain ⟨hlen, hok1, hok2⟩ := okV2_spec hok
  have hρ : ∀ i, i < H0.length → put1 ρ (σ mv) (ρ' mv).1 (ρ' mv).2 (σ i) = ρ' i := fun i hi => by
    by_cases e : i = mv
    · subst e; rw [put1_self]
    · rw [put1_ne _ (fun he => e (hσ i mv hi hmvN he)), hag i hi e]
  have key : ∀ k b', updH H (effV σ H1) k = some b' → (∃ i b1, lk H1 i = some b1 ∧ b1.own = true ∧ (∀ j ∈ idsA b1.cs, j < H0.length) ∧ i < H0.length ∧ k = σ i ∧ b' = b1.ren σ) ∨ (H k = some b' ∧ (∀ i b0, lk H0 i = some b0 → b0.own = true → σ i ≠ k) ∧ k ≠ σ mv) := fun k b' hk => by
    unfold updH at hk
    cases e : (effV σ H1).lookup k with
    | some b2 =>
      rw [e] at hk
      obtain rfl := Option.some.inj hk
      obtain ⟨i, b1, h1, ho, rfl, rfl⟩ := effV_mem (lookup_mem e)
      exact .inl ⟨i, b1, h1, ho, (hok2 i b1 h1 ho).2, hlen ▸ lk_lt h1, rfl, rfl⟩
    | none =>
      rw [e] at hk
      have hne : ∀ i b0, lk H0 i = some b0 → b0.own = true → σ i ≠ k := fun i b0 h0 ho he => by
        obtain ⟨b1, h1, ho1⟩ := hok1 i b0 h0 ho
        subst he
        exact lookup_none e _ (mem_effV h1 ho1)
      refine .inr ⟨hk, hne, fun he => ?_⟩
      cases h0 : lk H0 mv with
      | none => rw [he, hmv h0] at hk; cases hk
      | some b0 => exact hne mv b0 h0 (hmo b0 h0) he.symm
  refine ⟨hR.below.trans hR'.below, fun k b' hk => ?_, fun k b' hk ho => ?_, fun k b' hk ho => ?_, fun k k' b b' hk hk' ho ho' he => ?_, hR.others.trans hR'.others, fun k b' hk ho => ?_, fun g hg => (hR'.keep g (.inl hg)).trans (hR.keep g hg)⟩
  · rcases key k b' hk with ⟨i, b1, h1, ho1, hids, hi, rfl, rfl⟩ | ⟨hk, hne, hkm⟩
    · obtain ⟨rest, hrest, hh⟩ := hR'.holds i b1 h1
      refine ⟨rest, hrest, ?_⟩
      rw [hρ i hi, hh]
      show _ = some (Obj.cells (flat _ (b1.cs.map (At.ren σ)) ++ rest).toArray b1.t (0, 0))
      rw [flat_ren, flat_congr (ρ := ρ') (ρ' := fun k => put1 ρ (σ mv) (ρ' mv).1 (ρ' mv).2 (σ k)) (l := b1.cs) fun j hj => hρ j (hids j hj)]
    · obtain ⟨rest, hrest, hh⟩ := hR.holds k b' hk
      refine ⟨rest, hrest, ?_⟩
      rw [put1_ne _ hkm, flat_congr (ρ := ρ) (ρ' := put1 ρ (σ mv) (ρ' mv).1 (ρ' mv).2) (l := b'.cs) fun j hj => put1_ne _ fun e => hfree k b' hk hne (e ▸ hj), ← hh]
      cases hbo : b'.own with
      | true => exact hR'.keep _ (.inr ⟨k, b', hk, hbo, rfl, hne⟩)
      | false => exact hR'.below.block _ (hR.ext k b' hk hbo)
  · rcases key k b' hk with ⟨i, b1, h1, ho1, hids, hi, rfl, rfl⟩ | ⟨hk, hne, hkm⟩
    · rw [hρ i hi]; exact hR'.own _ _ h1 ho1
    · rw [put1_ne _ hkm]; exact hR.own _ _ hk ho
  · rcases key k b' hk with ⟨i, b1, h1, ho1, hids, hi, rfl, rfl⟩ | ⟨hk, hne, hkm⟩
    · rw [show (b1.ren σ).own = b1.own from rfl, ho1] at ho; cases ho
    · rw [put1_ne _ hkm]; exact hR.ext _ _ hk ho
  · rcases key k b hk with ⟨i, b1, h1, ho1, hids, hi, rfl, rfl⟩ | ⟨hk, hne, hkm⟩ <;> rcases key k' b' hk' with ⟨i', b1', h1', ho1', hids', hi', rfl, rfl⟩ | ⟨hk', hne', hkm'⟩
    · rw [hρ i hi, hρ i' hi'] at he
      rw [hR'.inj _ _ _ _ h1 h1' ho1 ho1' he]
    · rw [hρ i hi, put1_ne _ hkm'] at he
      exact absurd (show w1.F (ρ' i).1 from .inr ⟨k', b', hk', ho', he.symm, hne'⟩) (hR'.free i b1 h1 ho1)
    · rw [hρ i' hi', put1_ne _ hkm] at he
      exact absurd (show w1.F (ρ' i').1 from .inr ⟨k, b, hk, ho, he, hne⟩) (hR'.free i' b1' h1' ho1')
    · rw [put1_ne _ hkm, put1_ne _ hkm'] at he
      exact hR.inj _ _ _ _ hk hk' ho ho' he
  · rcases key k b' hk with ⟨i, b1, h1, ho1, hids, hi, rfl, rfl⟩ | ⟨hk, hne, hkm⟩
    · rw [hρ i hi]; exact fun hF => hR'.free _ _ h1 ho1 (.inl hF)
    · rw [put1_ne _ hkm]; exact hR.free _ _ hk ho
end Go.Proofs.YtkiaodihfofbnaaGreatDoor.X
namespace Go.Proofs.YtkiaodihfofbnaaGreatDoor.X
open Go Go.RowKit
set_option maxRecDepth 100000

def noneT (T : List (Option AV)) (k : Nat) : Bool := T.all fun x => match x with
  | some v => !v.ids.contains k
  | none => true
theorem noneT_spec {T : List (Option AV)} {k : Nat} (h : noneT T k = true) : ∀ t v, lk T t = some v → k ∉ v.ids := fun t v hv => by
  have := List.all_eq_true.1 h _ (lk_mem hv)
  simpa using this
/-- The state behind a call by which a block has come to lie elsewhere. -/
theorem StOk.moved {w0 : Base} {ρ ρ' : Rho} {T : List (Option AV)} {H H' : List (Option Blk)} {O : List Prop} {a : Act} {w w' : World} (hs : StOk w0 ρ ⟨T, H, O⟩ a w) (kr : Nat) (hag : ∀ j, j < H.length → j ≠ kr → ρ' j = ρ j) (hR : Ref w0 ρ' w' (lk H')) {d : Nat} {v : AV}
    (hb : (noneT T kr && bndB (setT T ⟨some d, v, [], [], []⟩) H' && decide (d < T.length)) = true) : StOk w0 ρ' ⟨setT T ⟨some d, v, [], [], []⟩, H', O⟩ (a.put (some d) (v.val ρ')) w' := by
  rw [Bool.and_eq_true, Bool.and_eq_true, decide_eq_true_eq] at hb
  obtain ⟨⟨hT, hb⟩, hd⟩ := hb
  have hdl : ∀ d', (⟨some d, v, [], [], []⟩ : Rec).dst = some d' → d' < T.length := fun d' h => by obtain rfl := Option.some.inj h; exact hd
  have hrel : Rel (fun j => if j < H.length then ρ j else ρ' j) a T.length (lk T) := ⟨hs.rel.size, hs.rel.defers, fun t u hu => by
    rw [hs.rel.at_ t u hu]
    exact AV.val_congr fun j hj => by rw [if_pos (hs.bnd.tv t u hu j hj)]⟩
  refine ⟨bndB_spec hb, ?_, hR⟩
  show Rel ρ' _ (setT T ⟨some d, v, [], [], []⟩).length (lk (setT T ⟨some d, v, [], [], []⟩))
  rw [length_setT, lk_setT hdl]
  refine Rel.put (kn := kr) hrel (fun j hj => ?_) (noneT_spec hT) (fun d' h => hdl d' h)
  show ρ' j = if j < H.length then ρ j else ρ' j
  split
  · rename_i h; exact hag j h hj
  · rfl

/-- The tape with so many events. -/
def Tp (w0 : Base) (ρ0 : Rho) (n : Nat) (w : World) : Prop :=
  ∃ ρ' l' sp', ρ' 0 = ρ0 0 ∧ List.length (α := Int × Int) l' = n ∧ (ρ' 1).2 = n + List.length (α := Int × Int) sp' ∧ Ref w0 ρ' w (lk [some (tpB (.s 1 n none)), some (evB l' sp')])
theorem fun70 : Fun Tryz.prog 70 Tryz.f70 := ⟨Tryz.func70, by kernel_rfl, by kernel_rfl⟩
noncomputable def ops70 : Array Oper := match tailS 3 ((Tryz.f70.body).getD .skip) with
  | .seq (.region _ ops _) _ => ops
  | _ => #[]
theorem is_calls {w0 : Base} {w : World} {ρ : Rho} {s : At} {r : Option Blk} {l : List (Int × Int)} {n : Nat} (hl : l.length = n) (hn : n < 1000000) (b : Bool) (h : TpAt 1 ρ n s r l) (hR : Ref w0 ρ w (lk [some (tpB s), r])) :
    Calls Tryz.prog 70 (argsV ρ [ptr 0, B1 b]) w fun e w' => e = .returned (.bool b) ∧ Tp w0 ρ (n + 1) w' := by
  refine fun_wp (H := [some (tpB s), r]) fun70.at_ (c := (Tryz.f70.body).getD .skip) rfl (by rcases h with ⟨rfl, rfl, rfl⟩ | ⟨sp, rfl, rfl, _⟩ <;> kernel_rfl) hR fun a hs => ?_
  refine toS_sound (sy := false) (m := 20) (n := 3) (ts := [0, 1, 4, 5]) (ks := [0, 1]) (hl := 2) (st' := ⟨mkA [(0, ptr 0), (1, B1 b), (4, B1 false), (5, I1 .i64 (bI b))] 11 0, [some (tpB s), r], []⟩) hm spOk_nil (by rcases h with ⟨rfl, rfl, rfl⟩ | ⟨sp, rfl, rfl, _⟩ <;> cases b <;> kernel_rfl) met0 hs fun ρ1 a1 w1 hag s1 => ?_
  have h0 : ρ1 0 = ρ 0 := hag 0 (by show 0 < 2; decide)
  have h1 : ρ1 1 = ρ 1 := hag 1 (by show 1 < 2; decide)
  have h' : TpAt 1 ρ1 n s r l := by
    rcases h with h | ⟨sp, e1, e2, e3⟩
    · exact .inl h
    · exact .inr ⟨sp, e1, e2, by rw [h1]; exact e3⟩
  refine wp_seq ?_
  change (Code.region _ ops70 false).wp _ _ _ _
  refine region_op (sy := false) spOk_nil 2 rfl rfl (T1 := mkA [(0, ptr 0), (1, B1 b), (4, B1 false), (5, I1 .i64 (bI b)), (7, ptr 0), (8, I1 .i64 (bI b))] 11 0) (H1 := [some (tpB s), r]) (O1 := []) (by rcases h with ⟨rfl, rfl, rfl⟩ | ⟨sp, rfl, rfl, _⟩ <;> kernel_rfl) met0 s1 fun ρ2 a2 w2 hag2 s2 => ?_
  have g0 : ρ2 0 = ρ 0 := (hag2 0 (by show 0 < 2; decide)).trans h0
  have h'' : TpAt 1 ρ2 n s r l := by
    rcases h' with h | ⟨sp, e1, e2, e3⟩
    · exact .inl h
    · exact .inr ⟨sp, e1, e2, by rw [hag2 1 (by show 1 < 2; decide)]; exact e3⟩
  refine call_wp rfl s2.rel (xf := .g (.a (.v (.func (.func 95) #[] #[])))) (xargs := [ptr 0, I1 .i64 3, I1 .i64 (bI b)]) rfl rfl (g := 95) (first := []) (caps := []) rfl fun95 ((note_calls hl hn 3 (bI b) h'' s2.ref).mono ?_)
  rintro e w3 ⟨ρ3, sp3, rfl, e0, e1, hR3⟩
  refine ⟨_, rfl, ?_⟩
  have s3 := s2.moved (ρ' := ρ3) (w' := w3) (d := 9) (v := .tup []) 1 (fun j hj hne => by
    have hj' : j < 2 := hj
    have : j = 0 := by omega
    rw [this]; exact e0) hR3 (by kernel_rfl)
  refine toA_sound (sy := false) (n := 20) (ts := [4]) (ks := [0, 1]) (hl := 2) (ex := .ret) (st' := ⟨mkA [(4, B1 b)] 11 0, [some (tpB (.s 1 (n + 1) none)), some (evB (l ++ [(3, bI b)]) sp3)], []⟩) hm spOk_nil (by kernel_rfl) met0 s3 fun ρ5 a5 w5 hρ5 s5 => ?_
  refine fun_end s5 (l := [.a (.v (.bool b))]) (by kernel_rfl) ⟨rfl, ρ5, l ++ [(3, bI b)], sp3, ?_, ?_, ?_, s5.ref⟩ (.inl rfl)
  · rw [hρ5 0 (by show 0 < 2; decide), e0, g0]
  · rw [List.length_append, hl]; rfl
  · rw [hρ5 1 (by show 1 < 2; decide)]; exact e1
end Go.Proofs.YtkiaodihfofbnaaGreatDoor.X
namespace Go.Proofs.YtkiaodihfofbnaaGreatDoor.X
open Go Go.RowKit
set_option maxRecDepth 100000

theorem fun97 : Fun Tryz.prog 97 Tryz.f97 := ⟨Tryz.func97, by kernel_rfl, by kernel_rfl⟩
noncomputable def ops97a : Array Oper := match (Tryz.f97.body).getD .skip with
  | .seq (.region _ ops _) _ => ops
  | _ => #[]
noncomputable def loop97 : Code := match tailS 2 ((Tryz.f97.body).getD .skip) with
  | .block _ (.loop c) => c
  | .seq (.block _ (.loop c)) _ => c
  | _ => .skip
noncomputable def ops97b : Array Oper := match tailS 1 loop97 with
  | .seq (.block _ (.seq (.region _ ops _) _)) _ => ops
  | _ => #[]
noncomputable def ops97c : Array Oper := match tailS 1 loop97 with
  | .seq (.block _ (.seq _ (.region _ ops _))) _ => ops
  | _ => #[]
abbrev vV (v : Value) : AV := .g (.a (.v v))
abbrev T97 (vn vd : Value) (i : Int) : List (Option AV) := mkA [(1, vV vn), (2, vV vd), (6, I1 .i64 i)] 22 0
/-- A state of which no block is told. -/
theorem StOk.bare {w0 : Base} {ρ : Rho} {T : List (Option AV)} {H : List (Option Blk)} {O : List Prop} {a : Act} {w : World} (hs : StOk w0 ρ ⟨T, H, O⟩ a w) (w' : World) (hb : bndB T [] = true) : StOk w' ρ ⟨T, [], []⟩ a w' :=
  ⟨bndB_spec hb, hs.rel, read_ref rfl fun k b hk => by cases hk⟩
theorem StOk.bareV {w0 : Base} {ρ : Rho} {T : List (Option AV)} {O : List Prop} {a : Act} {w : World} (hs : StOk w0 ρ ⟨T, [], O⟩ a w) (w' : World) {d : Nat} (hd : d < T.length) (v : Value) : StOk w' ρ ⟨setT T ⟨some d, vV v, [], [], []⟩, [], []⟩ (a.put (some d) v) w' := by
  have h := hs.putV hd (v := v)
  exact ⟨h.bnd, h.rel, read_ref rfl fun k b hk => by cases hk⟩
theorem args_ofV (ρ : Rho) (l : List Value) : argsV ρ (l.map ofV) = l.toArray := by unfold argsV; rw [map_ofV]
theorem argsV_append (ρ : Rho) (a b : List AV) : argsV ρ (a ++ b) = argsV ρ a ++ argsV ρ b := by simp [argsV]
theorem fun98 : Fun Tryz.prog 98 Tryz.f98 := ⟨Tryz.func98, by kernel_rfl, by kernel_rfl⟩
theorem down_calls (tp : Value) (caps : Array Value) (J : Nat → Nat → World → Prop) (hab : ∀ i n W W', J i n W → Below W.heap.size W W' → J i n W')
    (hnote : ∀ i n W k m, i ≤ 448 → n < 1000 → J i n W → Calls Tryz.prog 95 #[tp, .int .i64 k, .int .i64 m] W fun e W' => e = .returned (.tuple #[]) ∧ J i (n + 1) W')
    (hdo : ∀ i n W, i < 448 → J i n W → Calls Tryz.prog 98 (#[.int .i64 (447 - (i : Int))] ++ caps) W fun e W' => e = .returned (.tuple #[]) ∧ J (i + 1) n W')
    {n0 : Nat} (hn0 : n0 < 100) {w : World} (h0 : J 0 n0 w) :
    Calls Tryz.prog 97 #[.int .i64 448, .func (.func 95) #[tp] #[], .func (.func 98) #[] caps] w fun e W' => e = .returned (.tuple #[]) ∧ J 448 (n0 + 449) W' := by
  have hargs : (#[.int .i64 448, .func (.func 95) #[tp] #[], .func (.func 98) #[] caps] : Array Value) = argsV (fun _ => (0, 0)) [I1 .i64 448, vV (.func (.func 95) #[tp] #[]), vV (.func (.func 98) #[] caps)] := rfl
  rw [hargs]
  -- the two calls
  have cn : ∀ (ρ : Rho) (k m : Int) (i n : Nat) (W : World), i ≤ 448 → n < 1000 → J i n W → Calls Tryz.prog 95 (argsV ρ ([ofV tp] ++ [I1 .i64 k, I1 .i64 m] ++ [])) W fun e W' => e = .returned (.tuple #[]) ∧ J i (n + 1) W' := fun ρ k m i n W hi hn h => by
    have : argsV ρ ([ofV tp] ++ [I1 .i64 k, I1 .i64 m] ++ []) = #[tp, .int .i64 k, .int .i64 m] := by
      show (([ofV tp, I1 .i64 k, I1 .i64 m] : List AV).map (AV.val ρ)).toArray = _
      simp only [List.map_cons, List.map_nil, ofV_val]
      rfl
    rw [this]; exact hnote i n W k m hi hn h
  have cd : ∀ (ρ : Rho) (i n : Nat) (W : World), i < 448 → J i n W → Calls Tryz.prog 98 (argsV ρ ([] ++ [I1 .i64 (447 - (i : Int))] ++ caps.toList.map ofV)) W fun e W' => e = .returned (.tuple #[]) ∧ J (i + 1) n W' := fun ρ i n W hi h => by
    have : argsV ρ ([] ++ [I1 .i64 (447 - (i : Int))] ++ caps.toList.map ofV) = #[.int .i64 (447 - (i : Int))] ++ caps := by
      rw [argsV_append, args_ofV]; rfl
    rw [this]; exact hdo i n W hi h
  have ab : ∀ {i n : Nat} {W W' : World} {ρ : Rho} {H : View}, J i n W → Ref W ρ W' H → J i n W' := fun h hr => hab _ _ _ _ h hr.below
  generalize hvn : (Value.func (.func 95) #[tp] #[]) = vn
  generalize hvd : (Value.func (.func 98) #[] caps) = vd
  refine fun_wp (H := []) fun97.at_ (c := (Tryz.f97.body).getD .skip) rfl (by kernel_rfl) (read_ref (w := w) rfl (fun k b hk => by cases hk)) fun a hs => ?_
  refine wp_seq ?_
  change (Code.region _ ops97a false).wp _ _ _ _
  refine region_op (sy := false) spOk_nil 2 rfl rfl (T1 := mkA [(0, I1 .i64 448), (1, vV vn), (2, vV vd), (7, vV vn), (8, I1 .i64 448)] 22 0) (H1 := []) (O1 := []) (by kernel_rfl) met0 hs fun ρ1 a1 w1 _ s1 => ?_
  subst hvn hvd
  refine call_wp rfl s1.rel (xf := vV (.func (.func 95) #[tp] #[])) (xargs := [I1 .i64 1, I1 .i64 448]) rfl rfl (g := 95) (first := [ofV tp]) (caps := []) rfl fun95 ((cn ρ1 1 448 0 n0 w1 (by omega) (by omega) (ab h0 s1.ref)).mono ?_)
  rintro e w2 ⟨rfl, hJ2⟩
  refine ⟨_, rfl, ?_⟩
  generalize hvn : (Value.func (.func 95) #[tp] #[]) = vn at *
  generalize hvd : (Value.func (.func 98) #[] caps) = vd at *
  have s2 := s1.bareV w2 (d := 9) (show 9 < 22 by decide) (.tuple #[])
  refine wp_seq ?_
  refine toA_sound (sy := false) (n := 20) (ts := [1, 2, 6]) (ks := []) (hl := 0) (ex := .normal) (st' := ⟨T97 vn vd 447, [], []⟩) hm spOk_nil (by kernel_rfl) met0 s2 fun ρ3 a3 w3 _ s3 => ?_
  have hJ3 := ab hJ2 s3.ref
  refine wp_block (wp_loop_up 448 (fun i a W => ∃ ρ, StOk W ρ ⟨T97 vn vd (447 - (i : Int)), [], []⟩ a W ∧ J i (n0 + 1 + i) W) ⟨ρ3, by rw [show (447 - ((0 : Nat) : Int)) = 447 from rfl]; exact s3.bare w3 (by kernel_rfl), hJ3⟩ ?_ ?_)
  · rintro i hi a W ⟨ρ4, s4, hJ4⟩
    generalize hz : (447 - (i : Int)) = z at s4
    change loop97.wp _ _ _ _
    refine toS_sound (sy := ⟨true, [(13, .bool true)]⟩) (m := 20) (n := 1) (ts := [1, 2, 6]) (ks := []) (hl := 0) (st' := ⟨T97 vn vd z, [], [Value.bool (decide (z ≥ 0)) = Value.bool true]⟩) hm spOk_nil (by kernel_rfl) (fun p hp => by rw [List.mem_singleton.1 hp, decide_eq_true (by omega)]) s4 fun ρ5 a5 W5 _ s5 => ?_
    have hJ5 := ab hJ4 s5.ref
    refine wp_seq (wp_block (wp_seq ?_))
    change (Code.region _ ops97b false).wp _ _ _ _
    have s5' := s5.bare W5 (by kernel_rfl)
    refine region_op (sy := false) spOk_nil 2 rfl rfl (T1 := mkA [(1, vV vn), (2, vV vd), (6, I1 .i64 z), (16, vV vn), (17, I1 .i64 z)] 22 0) (H1 := []) (O1 := []) (by kernel_rfl) met0 s5' fun ρ6 a6 W6 _ s6 => ?_
    have hJ6 := ab hJ5 s6.ref
    refine call_wp rfl s6.rel (xf := vV vn) (xargs := [I1 .i64 2, I1 .i64 z]) rfl rfl (g := 95) (first := [ofV tp]) (caps := []) (by rw [← hvn]; rfl) fun95 ((cn ρ6 2 z i (n0 + 1 + i) W6 (by omega) (by omega) hJ6).mono ?_)
    rintro e W7 ⟨rfl, hJ7⟩
    refine ⟨_, rfl, ?_⟩
    have s7 := (s6.bareV W7 (d := 18) (show 18 < 22 by decide) (.tuple #[])).cut (ts := [1, 2, 6]) (ks := []) (hl := 0) (by kernel_rfl)
    change (Code.region _ ops97c false).wp _ _ _ _
    refine region_op (sy := false) spOk_nil 2 rfl rfl (st := ⟨T97 vn vd z, [], []⟩) (T1 := mkA [(1, vV vn), (2, vV vd), (6, I1 .i64 z), (19, vV vd), (20, I1 .i64 z)] 22 0) (H1 := []) (O1 := []) (by kernel_rfl) met0 s7 fun ρ8 a8 W8 _ s8 => ?_
    have hJ8 := ab hJ7 s8.ref
    have hcd := cd ρ8 i (n0 + 1 + i + 1) W8 hi hJ8
    rw [hz] at hcd
    refine call_wp rfl s8.rel (xf := vV vd) (xargs := [I1 .i64 z]) rfl rfl (g := 98) (first := []) (caps := caps.toList.map ofV) (by rw [← hvd]; rfl) fun98 (hcd.mono ?_)
    rintro e W9 ⟨rfl, hJ9⟩
    refine ⟨_, rfl, ?_⟩
    have s9 := (s8.bareV W9 (d := 21) (show 21 < 22 by decide) (.tuple #[])).cut (ts := [1, 2, 6]) (ks := []) (hl := 0) (by kernel_rfl)
    refine toA_sound (st := ⟨T97 vn vd z, [], []⟩) (sy := ⟨true, [(15, .int .i64 (z - 1))]⟩) (n := 20) (ts := [1, 2, 6]) (ks := []) (hl := 0) (ex := .normal) (st' := ⟨T97 vn vd (z - 1), [], [Value.int .i64 (IntKind.i64.wrap (z - 1)) = Value.int .i64 (z - 1)]⟩) hm spOk_nil (by kernel_rfl) (fun p hp => by rw [List.mem_singleton.1 hp, wrap_in (by omega)]) s9 fun ρ10 a10 W10 _ s10 => ?_
    refine ⟨ρ10, ?_, ?_⟩
    · rw [show (447 - ((i + 1 : Nat) : Int)) = z - 1 by omega]
      exact s10.bare W10 (by kernel_rfl)
    · have := ab hJ9 s10.ref
      rw [show n0 + 1 + (i + 1) = n0 + 1 + i + 1 by omega]
      exact this
  · rintro a W ⟨ρ4, s4, hJ4⟩
    rw [show (447 - ((448 : Nat) : Int)) = -1 from rfl] at s4
    change loop97.wp _ _ _ _
    refine toA_sound (sy := false) (n := 20) (ts := []) (ks := []) (hl := 0) (ex := .exit 0) (st' := ⟨mkA [] 22 0, [], []⟩) hm spOk_nil (by kernel_rfl) met0 s4 fun ρ5 a5 W5 _ s5 => ?_
    have hJ5 := ab hJ4 s5.ref
    rw [show n0 + 1 + 448 = n0 + 449 by omega] at hJ5
    have hfin : bodyPost Tryz.prog Tryz.f97 (fun e W' => e = .returned (.tuple #[]) ∧ J 448 (n0 + 449) W') .normal a5 W5 := fun_end s5 (l := []) (by kernel_rfl) ⟨rfl, hJ5⟩ (.inr rfl)
    exact hfin
end Go.Proofs.YtkiaodihfofbnaaGreatDoor.X
namespace Go.Proofs.YtkiaodihfofbnaaGreatDoor.X
open Go Go.RowKit
set_option maxRecDepth 100000

/-- In the midst of a region: up to an operation by itself. -/
theorem rest_op {P : Program} {sp : Sp} (hsp : SpOk P sp) {sy : Md} {w0 : Base} {Q : Exit → Act → World → Prop} {ops : Array Oper} (q0 q : Nat) (hq0 : q0 ≤ q) {o : Oper} (ho : ops.toList[q]? = some o) (hg : o.guard = none)
    {st : St} {T1 : List (Option AV)} {H1 : List (Option Blk)} {O1 : List Prop} (h1 : runSeq P sp sy ops.toList ((ops.toList.drop q0).take (q - q0)) st.T st.H st.ob = some (T1, H1, O1)) (hob : Met O1) {ρ : Rho} {a : Act} {w : World} (hs : StOk w0 ρ st a w)
    (hop : ∀ ρ1 a1 w1, (∀ k, k < st.H.length → ρ1 k = ρ k) → StOk w0 ρ1 ⟨T1, H1, O1⟩ a1 w1 → o.wp P a1 w1 (wpOps P ops Q (List.range' (q + 1) (ops.size - (q + 1)))) Q) : wpOps P ops Q (List.range' q0 (ops.size - q0)) a w := by
  have hq : q < ops.toList.length := (List.getElem?_eq_some_iff.1 ho).1
  have hsplit : ops.toList.drop q0 = (ops.toList.drop q0).take (q - q0) ++ (o :: ops.toList.drop (q + 1)) := by
    have e1 : o :: ops.toList.drop (q + 1) = ops.toList.drop q := by
      rw [← List.getElem_cons_drop hq]
      rw [(List.getElem?_eq_some_iff.1 ho).2]
    have e2 : ops.toList.drop q = (ops.toList.drop q0).drop (q - q0) := by rw [List.drop_drop, show q0 + (q - q0) = q by omega]
    rw [e1, e2, List.take_append_drop]
  have key := runSeq_pre (w0 := w0) (Q := Q) hsp ((ops.toList.drop q0).take (q - q0)) q0 (o :: ops.toList.drop (q + 1)) st.T T1 st.H H1 st.ob O1 ρ a w hsplit h1 hob hs.bnd hs.rel hs.ref fun ρ1 a1 w1 e1 e2 e3 e4 e5 e6 => ?_
  · rw [← hsplit, List.length_drop, Array.toArray_toList, Array.length_toList] at key
    exact key
  · rw [Array.toArray_toList, List.length_cons, List.range'_succ, wpOps_cons]
    have hlt : ((ops.toList.drop q0).take (q - q0)).length = q - q0 := by rw [List.length_take, List.length_drop]; omega
    rw [hlt, show q0 + (q - q0) = q by omega]
    unfold wpOp
    have hoq : ops[q]? = some o := by rw [← Array.getElem?_toList]; exact ho
    simp only [hoq]
    have hw : Region.wanted o (yielded ops a1.tmps) = true := by unfold Region.wanted; rw [hg]
    rw [if_pos hw]
    have h2 : (ops.toList.drop (q + 1)).length = ops.size - (q + 1) := by rw [List.length_drop, Array.length_toList]
    rw [h2]
    exact .inl (hop ρ1 a1 w1 e1 ⟨e2, e5, e6⟩)

/-! ### A bit -/
theorem fun99 : Fun Tryz.prog 99 Tryz.f99 := ⟨Tryz.func99, by kernel_rfl, by kernel_rfl⟩
def anI (a b : Int) : Int := IntKind.i64.wrap ((BitVec.ofInt 64 a &&& BitVec.ofInt 64 b).toNat : Int)
def ob99 (l : List Int) (m : Int) (r : Nat) (b : Bool) : List Prop :=
  [Value.int .i64 (anI (IntKind.i64.wrap ((l.getD ((qi m).toNat * 1) 0).fdiv (2 ^ r))) 1) = Value.int .i64 (bI b), Value.int .i64 (m.tmod 8) = Value.int .i64 (r : Int), (qi m).toNat * 1 < l.length, 0 ≤ qi m ∧ qi m < ((56 : Nat) : Int)]
theorem run99 (l : List Int) (cap : Option Nat) (t : TypeId) (m : Int) (r : Nat) (hr : r < 8) (b : Bool) :
    ansOf (runFn Tryz.prog (spOf []) ⟨true, [(11, .int .i64 (r : Int)), (14, .int .i64 (bI b))]⟩ 100 Tryz.f99 [.g (.a (.s 0 56 cap)), I1 .i64 m] [some (rowBlk l t)]) = some (I1 .i64 (bI b), ob99 l m r b) := by
  have h8 : r = 0 ∨ r = 1 ∨ r = 2 ∨ r = 3 ∨ r = 4 ∨ r = 5 ∨ r = 6 ∨ r = 7 := by omega
  rcases h8 with rfl | rfl | rfl | rfl | rfl | rfl | rfl | rfl <;> cases b <;> (show ansOf _ = some _; kernel_rfl)
theorem anI_one {B : Nat} (hB : B < 256) : anI (B : Int) 1 = ((B % 2 : Nat) : Int) := by
  unfold anI
  have e : BitVec.ofInt 64 (B : Int) = BitVec.ofNat 64 B := BitVec.ofInt_natCast ..
  have e1 : BitVec.ofInt 64 1 = BitVec.ofNat 64 1 := rfl
  rw [e, e1, BitVec.toNat_and, BitVec.toNat_ofNat, BitVec.toNat_ofNat, Nat.mod_eq_of_lt (by omega), show 1 % 2 ^ 64 = 1 from rfl, Nat.and_one_is_mod, wrap_in (by omega)]
theorem ob99_met {l : List Int} (hb : Bytes256 l) (hl : l.length = 56) {m : Nat} (h : m < 448) : Met (ob99 l (m : Int) (m % 8) (tbit l m)) := by
  obtain ⟨B, hB, hB2⟩ := hb.get (m / 8)
  intro p hp
  simp only [ob99, List.mem_cons, List.not_mem_nil, or_false] at hp
  rw [qi_nat h] at hp
  rcases hp with rfl | rfl | rfl | rfl
  · have hlt : B / 2 ^ (m % 8) < 256 := Nat.lt_of_le_of_lt (Nat.div_le_self _ _) hB2
    unfold bI
    have key : ∀ c : Nat, c < 256 → anI (IntKind.i64.wrap (c : Int)) 1 = ((c % 2 : Nat) : Int) := fun c hc => by rw [wrap_in (by omega), anI_one hc]
    rw [Int.toNat_natCast, Nat.mul_one, tbit_eq hB, hB, fdiv_nat, key _ hlt]
  · have e : (m : Int).tmod 8 = ((m % 8 : Nat) : Int) := rfl
    rw [e]
  · rw [Int.toNat_natCast, hl]; omega
  · omega
def e99 : Ent := ⟨99, fun args V _ => match args with
  | [.g (.a (.s k 56 _)), .g (.a (.v (.int .i64 m)))] => match rowV V 56 k with
    | some (l, ob) => some ⟨I1 .i64 (bitI l m), [], Bytes256 l :: (0 ≤ m ∧ m < 448) :: ob⟩
    | none => none
  | _ => none⟩
theorem e99_ok : EntOk Tryz.prog e99 := fun args V kn o ho hob w0 ρ w H hR hV g1 g2 g3 => by
  unfold e99 at ho
  simp only at ho
  split at ho
  · rename_i k cap m
    split at ho
    · rename_i l ob hl
      obtain rfl := Option.some.inj ho
      have h256 : Bytes256 l := hob _ (List.mem_cons_self ..)
      have hm' : 0 ≤ m ∧ m < 448 := hob _ (List.mem_cons_of_mem _ (List.mem_cons_self ..))
      obtain ⟨b, hk, h56, hfl⟩ := rowV_spec hl (fun p hp => hob p (List.mem_cons_of_mem _ (List.mem_cons_of_mem _ hp)))
      refine does_ref hR ?_
      obtain ⟨n, rfl⟩ := Int.eq_ofNat_of_zero_le hm'.1
      exact read_run hm spOk_nil fun99 _ 100 (run99 l cap b.t (n : Int) (n % 8) (Nat.mod_lt _ (by decide)) (tbit l n)) (ob99_met h256 h56 (by omega)) (by cases tbit l n <;> kernel_rfl) (one_holds hR (hV _ _ hk) hfl)
    · cases ho
  · cases ho

/-! ### A swap -/
theorem fun96 : Fun Tryz.prog 96 Tryz.f96 := ⟨Tryz.func96, by kernel_rfl, by kernel_rfl⟩
structure Pair where
  x : El × El
  t : TypeId
  o : Bool
def pairV (V : View) (k : Nat) : Option Pair := match V k with
  | some b => match b.cs, b.own with
    | [.e x, .e y], true => some ⟨(x, y), b.t, b.opn⟩
    | _, _ => none
  | none => none
theorem pairV_spec {V : View} {k : Nat} {p : Pair} (h : pairV V k = some p) : V k = some ⟨[.e p.x.1, .e p.x.2], p.t, p.o, true⟩ := by
  unfold pairV at h
  split at h
  · rename_i b hb
    split at h
    · rename_i x y hc ho
      obtain rfl := Option.some.inj h
      obtain ⟨cs, t, o, w⟩ := b
      simp only at hc ho
      subst hc ho
      exact hb
    · cases h
  · cases h
def e96 (sw : Int → El × El → El × El) : Ent := ⟨96, fun args V _ => match args with
  | [.g (.a (.v (.int .i64 b))), .g (.a (.p kx 0)), .g (.a (.p kz 0))] => match pairV V kx, pairV V kz with
    | some x, some z => if kx = kz then none else some ⟨.tup [], [(kx, ⟨[.e (sw b x.x).1, .e (sw b x.x).2], x.t, x.o, true⟩), (kz, ⟨[.e (sw b z.x).1, .e (sw b z.x).2], z.t, z.o, true⟩)], []⟩
    | _, _ => none
  | _ => none⟩
theorem e96_ok : EntOk Tryz.prog (e96 swE) := fun args V kn o ho hob w0 ρ w H hR hV hn hfx g3 => by
  unfold e96 at ho
  simp only at ho
  split at ho
  · rename_i b kx kz
    split at ho
    · rename_i x z hx hz
      split at ho
      · cases ho
      rename_i hne
      obtain rfl := Option.some.inj ho
      have hx' := pairV_spec hx
      have hz' := pairV_spec hz
      have h := write_run (args0 := [I1 .i64 b, ptr 0, ptr 1]) (H0 := [some ⟨[.e x.x.1, .e x.x.2], x.t, x.o, true⟩, some ⟨[.e z.x.1, .e z.x.2], z.t, z.o, true⟩]) (r := .tup []) (ob := []) (H1 := [some ⟨[.e (swE b x.x).1, .e (swE b x.x).2], x.t, x.o, true⟩, some ⟨[.e (swE b z.x).1, .e (swE b z.x).2], z.t, z.o, true⟩]) hm (spOk_cons e54_ok spOk_nil) fun96 false 50 (by kernel_rfl) met0 (by kernel_rfl) (sel2 kx kz) hR (fun j b0 hj => by
          match j, hj with
          | 0, hj => obtain rfl := Option.some.inj hj; exact ⟨_, hV _ _ hx', rfl, rfl, rfl, rfl⟩
          | 1, hj => obtain rfl := Option.some.inj hj; exact ⟨_, hV _ _ hz', rfl, rfl, rfl, rfl⟩) (fun j j' b1 b2 hj hj' _ _ he => by
          match j, j', hj, hj' with
          | 0, 0, _, _ => rfl
          | 1, 1, _, _ => rfl
          | 0, 1, _, _ => exact absurd he hne
          | 1, 0, _, _ => exact absurd he.symm hne)
      exact h.mono fun v w' ⟨e1, e2⟩ => ⟨ρ, fun _ _ => rfl, e1, e2⟩
    · cases ho
  · cases ho

/-! ### A round -/
abbrev H98 (l : List Int) (cap : Option Nat) (last : Bool) (u : El) (x z : El × El) : List (Option Blk) :=
  [some ⟨[.s 6 56 cap], 34, false, true⟩, some ⟨[.c 96 [] [4, 5]], 125, false, true⟩, some ⟨[.v (.int .i64 (bI last))], 3, false, true⟩, some ⟨[.e u], 29, false, true⟩, some ⟨[.e x.1, .e x.2], 70, false, true⟩, some ⟨[.e z.1, .e z.2], 70, false, true⟩, some ⟨[.r .u8 l], 5, true, true⟩]
def sp98 (sw : Int → El × El → El × El) (stX : El × El → El × El → El × El) (stZ : El → El × El → El × El → El × El) : Sp :=
  spOf [e99, e96 sw, ent3 100 pE pE2 pE2 fun u x z => .tup [.agg [.e (stX x z).1, .e (stX x z).2], .agg [.e (stZ u x z).1, .e (stZ u x z).2]]]
theorem sp98_ok : SpOk Tryz.prog (sp98 swE stepX stepZ) := spOk_cons e99_ok (spOk_cons e96_ok (spOk_cons e100_ok spOk_nil))
theorem run98 (sw : Int → El × El → El × El) (stX : El × El → El × El → El × El) (stZ : El → El × El → El × El → El × El) (l : List Int) (cap : Option Nat) (last b : Bool) (u : El) (x z : El × El) (m : Int) :
    ansW 7 (runFn Tryz.prog (sp98 sw stX stZ) ⟨false, [(11, .int .i64 (bI b))]⟩ 60 Tryz.f98 [I1 .i64 m, ptr 0, ptr 1, ptr 2, ptr 3, ptr 4, ptr 5] (H98 l cap last u x z)) =
      some (.tup [], [Value.int .i64 (bitI l m) = Value.int .i64 (bI b), Bytes256 l, 0 ≤ m ∧ m < 448, l.length = 56], H98 l cap b u (stX (sw (bI (b != last)) x) (sw (bI (b != last)) z)) (stZ u (sw (bI (b != last)) x) (sw (bI (b != last)) z))) := by
  cases b <;> cases last <;> (show ansW _ _ = some _; kernel_rfl)
end Go.Proofs.YtkiaodihfofbnaaGreatDoor.X
