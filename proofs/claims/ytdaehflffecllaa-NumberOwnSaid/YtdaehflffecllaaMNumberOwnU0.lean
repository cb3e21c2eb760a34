/- The law NumberOwn returns true whatever the input: U0 of its proof; no condition. (Joined by wip/shake.py.) -/
import Derived.Test.YtdaehflffecllaaMNumberOwnNx0
import Derived.Test.YtdaehflffecllaaMNumberOwnWMore
import Derived.Test.YtdaehflffecllaaMNumberOwnWN
import Derived.Test.YtdaehflffecllaaMNumberOwnN0
namespace Go.Proofs.Ytdaehflffecllaa.N
open Go.RowKit Go.Proofs.YtdaehflffecllaaW.PrintWords Go.Proofs.YtdaehflffecllaaW.PrintLast Go.Proofs.YtdaehflffecllaaW.PrintMore
set_option linter.unusedVariables false
/-- A block of cells that no string shares. -/
def Un (W : World) (k : Nat) : Prop := ∃ cells t, W.heap[k]? = some (.cells cells t (0, 0))
theorem Un.lt {W : World} {k : Nat} (h : Un W k) : k < W.heap.size := by
  obtain ⟨c, t, h⟩ := h
  by_cases hk : k < W.heap.size
  · exact hk
  · rw [Array.getElem?_eq_none (by omega)] at h; cases h
theorem Un.same {W w1 : World} {k : Nat} (h : Un W k) (he : w1.heap[k]? = W.heap[k]?) : Un w1 k := by
  obtain ⟨c, t, h⟩ := h
  exact ⟨c, t, he.trans h⟩
def VU {α : Type} (d : Kd α) (e : Nat) (W : World) (base : Nat) (ok : Nat → Prop) (v : Value) (xs : List α) : Prop := Kd.V d e W base (fun k => ok k ∧ base ≤ k ∧ Un W k) v xs
section
variable {α : Type} {d : Kd α} {e base base' n c : Nat} {ok ok' : Nat → Prop} {w W w1 : World} {A : Option Addr} {u v v1 : Value} {xs : List α}
theorem VU_step (h : VU d e W base ok v xs) (hm : ∀ k, ok k → base ≤ k → Un W k → w1.heap[k]? = W.heap[k]?) : VU d e w1 base ok v xs :=
  Kd.V_mono (Kd.V_step h (fun k hk _ => hm k hk.1 hk.2.1 hk.2.2)) (fun k hk => ⟨hk.1, hk.2.1, hk.2.2.same (hm k hk.1 hk.2.1 hk.2.2)⟩)
theorem VU_mono (h : VU d e W base ok v xs) (hok : ∀ k, ok k → ok' k) : VU d e W base ok' v xs := Kd.V_mono h (fun k hk => ⟨hok k hk.1, hk.2⟩)
theorem VU_bound (h : VU d e W base ok v xs) : VU d e W base (fun k => ok k ∧ k < W.heap.size) v xs := Kd.V_mono h (fun k hk => ⟨⟨hk.1, hk.2.2.lt⟩, hk.2⟩)
theorem VU_lower (h : VU d e W base ok v xs) (hb : base' ≤ base) : VU d e W base' ok v xs := Kd.V_mono (Kd.V_lower h hb) (fun k hk => ⟨hk.1, Nat.le_trans hb hk.2.1, hk.2.2⟩)
theorem VU_keep {m m' : Nat} (h : VU d e W base ok v xs) (_ : m ≤ m') : VU d e W base ok v xs := h
theorem VU_nil (d : Kd α) (e : Nat) (W : World) (base : Nat) (ok : Nat → Prop) : VU d e W base ok (.slice none 0 0) [] := Kd.V_nil _ _ _ _ _
theorem VU_slice (h : VU d e W base ok v xs) : ∃ A c, v = .slice A xs.length c := Kd.V_slice h
theorem VU_reads' (h : VU d e W base ok (.slice A n c) xs) : n = xs.length ∧ n ≤ c ∧ d.C W A xs.length xs := Kd.V_reads' h
theorem VU_F (h : VU d e W base ok (.slice A n c) xs) : Kd.F d W (fun k => ok k ∧ base ≤ k ∧ Un W k) A n xs := Kd.V_F h
theorem VU_below (h : VU d e W base ok v xs) (hb : Below W.heap.size W w1) : VU d e w1 base ok v xs := VU_step h (fun k _ _ hu => hb.block k hu.lt)
theorem VU_alloc (h : VU d e W base ok v xs) (o : Obj) : VU d e (W.alloc o) base ok v xs := VU_below h (below_alloc (Below.refl _ _) o)
theorem VU_drew (h : VU d e W base ok v xs) : VU d e W.drew base ok v xs := VU_below h (below_drew (Below.refl _ _))
theorem VU_drewN (h : VU d e W base ok v xs) (m : Nat) : VU d e (W.drewN m) base ok v xs := VU_below h (pw_below_drewN (Below.refl _ _) m)
theorem VU_far (h : VU d e W base ok v xs) {p : Addr} (hok : ∀ k, ok k → k ≠ p.block) (u : Value) : VU d e (W.setCell p u) base ok v xs := VU_step h (fun k ho _ _ => Below.heap_setCell W p u k (hok k ho))
theorem VU_grown (h : VU d e W base ok v xs) {row : Option Nat} (hg : W.grownBy w1 row) (hok : ∀ k, ok k → some k ≠ row) : VU d e w1 base ok v xs := VU_step h (fun k ho _ hu => hg.block k hu.lt (hok k ho))
theorem VU_afterv (h : VU d e W base (fun k => ok k ∧ some k ≠ v.ownBlock) u xs) (hg : W.grownBy w1 v.ownBlock) (hat : v1.ownBlock = v.ownBlock ∨ ∃ b, v1.ownBlock = some b ∧ W.heap.size ≤ b) : VU d e w1 base (fun k => ok k ∧ some k ≠ v1.ownBlock) u xs := by
  refine VU_mono (VU_grown (VU_bound h) hg (fun k hk => hk.1.2)) (fun k hk => ⟨hk.1.1, ?_⟩)
  rcases hat with hat | ⟨b, hb, hle⟩
  · rw [hat]; exact hk.1.2
  · rw [hb]; intro he; injection he with he; have := hk.2; omega
theorem VU_apart_nil (h : VU d e W base ok v xs) : VU d e W base (fun k => ok k ∧ some k ≠ (Value.slice none 0 0).ownBlock) v xs := VU_mono h (fun k hk => ⟨hk, by simp [Value.ownBlock]⟩)
theorem VU_elder' (h : VU d e W base ok v xs) (hbase : ∀ k, u.ownBlock = some k → W.heap.size ≤ k) (hb : Below W.heap.size W w1) : VU d e w1 base (fun k => ok k ∧ some k ≠ u.ownBlock) v xs :=
  VU_mono (VU_below (VU_bound h) hb) (fun k hk => ⟨hk.1, fun he => by have := hbase k he.symm; have := hk.2; omega⟩)
theorem R_VU {q : IntKind} {l : List Int} (h : (Kd.int q).R e W base ok v l) : VU (Kd.int q) e W base ok v l := by
  have hb := Kd.R_base h
  have ht := Kd.R_typed h
  refine Kd.V_mono (Kd.R_V (base' := base) (Kd.R_tight2 rfl h)) (fun k hk => ⟨hk.2, hb k hk.1.symm, ?_⟩)
  obtain ⟨c, hc⟩ := ht k hk.1.symm
  exact ⟨c, _, hc⟩
end
/-- The cut, of a row that may be written. -/
theorem number_Nat_cut.callsU {b0 : Nat} (k : Nat) (P0_ : Nat → Prop) (A0 : Option Addr) (c0 : Nat) (l0 : List Int) (r : List Int) (w : World) (hs0 : VU (Kd.int .u64) 62 w b0 (fun k_ => P0_ k_) (.slice A0 l0.length c0) l0) (h : number_Nat_cut.f k l0 = some r) :
    Calls Try.prog 96 #[.slice A0 l0.length c0] w fun e w' => ∃ v0_ : Value, e = .returned (v0_) ∧ VU (Kd.int .u64) 62 w' b0 (fun k_ => (P0_ k_ ∨ w.heap.size ≤ k_)) v0_ r ∧ Below w.heap.size w w' := by
  obtain rfl := Option.some.inj h
  obtain ⟨_, hroom, hC⟩ := VU_reads' hs0
  refine (cut_walk A0 c0 l0 w hC hroom hC.2.1).mono ?_
  rintro e w' ⟨m, c, rfl, hm, hmc, hE, rfl⟩
  have hr9 := Kd.F_take (m := m) (Kd.V_at hs0).2.2 hm
  have hl : (l0.take m).length = m := by rw [List.length_take]; omega
  refine ⟨_, rfl, ?_, Below.refl _ _⟩
  rw [← hE]
  have h5 : VU (Kd.int .u64) 62 w b0 (fun k_ => (P0_ k_ ∨ w.heap.size ≤ k_)) (.slice A0 (l0.take m).length c) (l0.take m) := Kd.V_mk (by omega) (Kd.F_mono hr9 (fun k_ hk => ⟨Or.inl hk.1, hk.2⟩))
  rw [hl] at h5
  exact h5
theorem info35U : (Try.prog.info? 35).map (fun i => (i.zero, i.size, i.bytes)) = some (some (.slice none 0 0), 1, 24) := by kernel_rfl
def rdL (xs : List (List Int)) (i : Int) : List Int := xs.getD i.toNat []
theorem Un.frozen {W : World} {ad : Addr} (h : Un W ad.block) (i : Nat) : W.frozen? (ad.add i) = false := by
  obtain ⟨c, t, h⟩ := h
  simp only [World.frozen?, add_block, h]
  simp
theorem cell_same {W w1 : World} {a : Addr} (he : w1.heap[a.block]? = W.heap[a.block]?) : w1.cell? a = W.cell? a := by simp only [World.cell?, he]
theorem R_farT {α : Type} {d : Kd α} {e base : Nat} {ok : Nat → Prop} {W : World} {v : Value} {xs : List α} (h : d.R e W base ok v xs) (hE : d.E = []) {p : Addr} (hne : some p.block ≠ v.ownBlock) (u : Value) : d.R e (W.setCell p u) base ok v xs :=
  Kd.R_mono (Kd.R_far (p := p) (Kd.R_tight2 hE h) (fun k hk e_ => hne (by rw [← e_]; exact hk.1)) u) (fun _ hk => hk.2)
/-- A row of n numbers, each in a block of ok, made from base on, that no string shares. -/
def Wr (W : World) (base : Nat) (ok : Nat → Prop) (A : Option Addr) (n : Nat) : Prop := ∀ i : Nat, i < n → ∃ ad x, A = some ad ∧ ok ad.block ∧ base ≤ ad.block ∧ W.cell? (ad.add i) = some (.int .u64 x) ∧ Un W ad.block
theorem Wr_of {W : World} {e base n c : Nat} {ok ok' : Nat → Prop} {A : Option Addr} {l : List Int} (h : VU (Kd.int .u64) e W base ok (.slice A n c) l) (hok : ∀ k, ok k → ok' k) : n = l.length ∧ l.length ≤ c ∧ Wr W base ok' A l.length := by
  have hn := (VU_reads' h).1
  have hc := (VU_reads' h).2.1
  refine ⟨hn, by omega, fun i hi => ?_⟩
  obtain ⟨ad, cs, rfl, hl, hK, hcc, hin⟩ := Kd.F_get (VU_F h) (0 : Int) (i : Int) (by omega) (by omega)
  have hk : cs = [.int .u64 (l.getD ((i : Int)).toNat 0)] := Kd.FK_now hK
  subst hk
  have h1 := hcc 0 _ rfl
  have ho := hin (by decide)
  rw [show ((i : Int)).toNat * (Kd.int IntKind.u64).sz + 0 = i from by show ((i : Int)).toNat * 1 + 0 = i; omega] at h1
  exact ⟨ad, _, rfl, hok _ ho.1, ho.2.1, h1, ho.2.2⟩
theorem Wr_below {W w1 : World} {base n : Nat} {ok : Nat → Prop} {A : Option Addr} (h : Wr W base ok A n) (hb : Below W.heap.size W w1) : Wr w1 base ok A n := fun i hi => by
  obtain ⟨ad, x, rfl, h1, h2, h3, h4⟩ := h i hi
  have hs := hb.block _ h4.lt
  exact ⟨ad, x, rfl, h1, h2, (cell_same (a := ad.add i) (by rw [add_block]; exact hs)).trans h3, h4.same hs⟩
theorem Un_set {W : World} {k : Nat} (h : Un W k) (p : Addr) (u : Value) : Un (W.setCell p u) k := by
  obtain ⟨c, t, h⟩ := h
  by_cases hk : k = p.block
  · subst hk
    refine ⟨if p.spot.isSome then c else c.setIfInBounds p.off u, t, ?_⟩
    simp only [World.setCell, Array.getElem?_modify, if_pos, h, Option.map_some]
  · exact ⟨c, t, (Below.heap_setCell W p u k hk).trans h⟩
theorem Wr_set {W : World} {base n : Nat} {ok : Nat → Prop} {A : Option Addr} (h : Wr W base ok A n) {p : Addr} {x : Int} (hp : W.cell? p = some (.int .u64 x)) (y : Int) : Wr (W.setCell p (.int .u64 y)) base ok A n := fun i hi => by
  obtain ⟨ad, z, rfl, h1, h2, h3, h4⟩ := h i hi
  by_cases he : ad.add i = p
  · refine ⟨ad, y, rfl, h1, h2, ?_, Un_set h4 _ _⟩
    rw [he]
    exact World.cell?_setCell_same _ _ _ hp
  · exact ⟨ad, z, rfl, h1, h2, (World.cell?_setCell_other _ _ _ _ (fun e_ => he e_.symm)).trans h3, Un_set h4 _ _⟩
def LI (W : World) (base : Nat) (ok : Nat → Prop) (v : Value) (y : List (List Int)) : Prop :=
  ∃ Y : List (List Value), Y.length = y.length ∧ (Kd.raw 1).R 35 W base ok v Y ∧ ∀ i : Nat, i < y.length → ∃ A c, Y.getD i [] = [.slice A (y.getD i []).length c] ∧ (y.getD i []).length ≤ c ∧ Wr W base (fun k => ok k ∧ some k ≠ v.ownBlock) A (y.getD i []).length
section
variable {W w1 : World} {base : Nat} {ok : Nat → Prop} {v : Value} {y : List (List Int)}
theorem LI_slice (h : LI W base ok v y) : ∃ A c, v = .slice A y.length c := by
  obtain ⟨Y, hl, hR, _⟩ := h
  obtain ⟨A, c, he⟩ := Kd.R_slice hR
  exact ⟨A, c, by rw [he, hl]⟩
theorem LI_below (h : LI W base ok v y) (hb : Below W.heap.size W w1) : LI w1 base ok v y := by
  obtain ⟨Y, hl, hR, hy⟩ := h
  refine ⟨Y, hl, Kd.R_below hR hb, fun i hi => ?_⟩
  obtain ⟨A, c, h1, h2, h3⟩ := hy i hi
  exact ⟨A, c, h1, h2, Wr_below h3 hb⟩
theorem LI_alloc (h : LI W base ok v y) (o : Obj) : LI (W.alloc o) base ok v y := LI_below h (below_alloc (Below.refl _ _) o)
theorem LI_drew (h : LI W base ok v y) : LI W.drew base ok v y := LI_below h (below_drew (Below.refl _ _))
theorem LI_drewN (h : LI W base ok v y) (m : Nat) : LI (W.drewN m) base ok v y := LI_below h (pw_below_drewN (Below.refl _ _) m)
theorem LI_get {Ao : Option Addr} {n co : Nat} (h : LI W base ok (.slice Ao n co) y) (i : Int) (h0 : 0 ≤ i) (h1 : i < y.length) :
    ∃ ad A c, Ao = some ad ∧ W.cell? (ad.add i.toNat) = some (.slice A (rdL y i).length c) ∧ (rdL y i).length ≤ c ∧ Wr W base (fun k => ok k ∧ some k ≠ (Value.slice Ao n co).ownBlock) A (rdL y i).length := by
  obtain ⟨Y, hl, hR, hy⟩ := h
  obtain ⟨hn, hc, hC⟩ := Kd.R_reads' hR
  obtain ⟨A, c, e1, e2, e3⟩ := hy i.toNat (by omega)
  obtain ⟨ad, cs, rfl, hcl, hK, hcc⟩ := Kd.C_get hC ([] : List Value) i h0 (by omega)
  have hk : cs = Y.getD i.toNat [] := hK.1
  rw [e1] at hk
  subst hk
  have h3 := hcc 0 _ rfl
  rw [show i.toNat * (Kd.raw 1).sz + 0 = i.toNat from by show i.toNat * 1 + 0 = i.toNat; omega] at h3
  exact ⟨ad, A, c, rfl, h3, e2, e3⟩
theorem LI_set (h : LI W base ok v y) {p : Addr} {x : Int} (hp : W.cell? p = some (.int .u64 x)) (hne : some p.block ≠ v.ownBlock) (z : Int) : LI (W.setCell p (.int .u64 z)) base ok v y := by
  obtain ⟨Y, hl, hR, hy⟩ := h
  refine ⟨Y, hl, R_farT hR rfl hne _, fun i hi => ?_⟩
  obtain ⟨A, c, h1, h2, h3⟩ := hy i hi
  exact ⟨A, c, h1, h2, Wr_set h3 hp z⟩
end
/-- What the law's list is at the loops. -/
theorem LI_six {W : World} {base : Nat} {ok o1 o2 o3 o4 o5 o6 : Nat → Prop} {v : Value} {l1 l2 l3 l4 l5 l6 : List Int} {A1 A2 A3 A4 A5 A6 : Option Addr} {c1 c2 c3 c4 c5 c6 : Nat}
    (hR : (Kd.raw 1).R 35 W base ok v [[.slice A1 l1.length c1], [.slice A2 l2.length c2], [.slice A3 l3.length c3], [.slice A4 l4.length c4], [.slice A5 l5.length c5], [.slice A6 l6.length c6]])
    (h1 : VU (Kd.int .u64) 62 W base o1 (.slice A1 l1.length c1) l1) (h2 : VU (Kd.int .u64) 62 W base o2 (.slice A2 l2.length c2) l2) (h3 : VU (Kd.int .u64) 62 W base o3 (.slice A3 l3.length c3) l3)
    (h4 : VU (Kd.int .u64) 62 W base o4 (.slice A4 l4.length c4) l4) (h5 : VU (Kd.int .u64) 62 W base o5 (.slice A5 l5.length c5) l5) (h6 : VU (Kd.int .u64) 62 W base o6 (.slice A6 l6.length c6) l6)
    (k1 : ∀ k, o1 k → ok k ∧ some k ≠ v.ownBlock) (k2 : ∀ k, o2 k → ok k ∧ some k ≠ v.ownBlock) (k3 : ∀ k, o3 k → ok k ∧ some k ≠ v.ownBlock)
    (k4 : ∀ k, o4 k → ok k ∧ some k ≠ v.ownBlock) (k5 : ∀ k, o5 k → ok k ∧ some k ≠ v.ownBlock) (k6 : ∀ k, o6 k → ok k ∧ some k ≠ v.ownBlock) : LI W base ok v [l1, l2, l3, l4, l5, l6] := by
  refine ⟨_, rfl, hR, fun i hi => ?_⟩
  have hi : i < 6 := hi
  match i, hi with
  | 0, _ => exact ⟨A1, c1, rfl, (Wr_of h1 k1).2⟩
  | 1, _ => exact ⟨A2, c2, rfl, (Wr_of h2 k2).2⟩
  | 2, _ => exact ⟨A3, c3, rfl, (Wr_of h3 k3).2⟩
  | 3, _ => exact ⟨A4, c4, rfl, (Wr_of h4 k4).2⟩
  | 4, _ => exact ⟨A5, c5, rfl, (Wr_of h5 k5).2⟩
  | 5, _ => exact ⟨A6, c6, rfl, (Wr_of h6 k6).2⟩
end Go.Proofs.Ytdaehflffecllaa.N
