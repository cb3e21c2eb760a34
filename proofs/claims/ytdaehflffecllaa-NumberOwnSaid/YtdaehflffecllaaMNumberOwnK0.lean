/- The law NumberOwn returns true whatever the input: K0 of its proof; no condition. (Joined by wip/shake.py.) -/
import Derived.Test.YtdaehflffecllaaProg
import Derived.Below
import Derived.WalkKit
import Derived.Test.YtdaehflffecllaaMNumberOwnWWords
import Derived.Test.YtdaehflffecllaaMNumberOwnWLast
import Derived.Test.YtdaehflffecllaaMNumberOwnWFoot
import Derived.Test.YtdaehflffecllaaMNumberOwnWKept
import Derived.Test.YtdaehflffecllaaMNumberOwnWShare
import Derived.Test.YtdaehflffecllaaMNumberOwnWMore
namespace Go.Proofs.Ytdaehflffecllaa.Clo
open Go.RowKit Go.Proofs.YtdaehflffecllaaW.PrintWords Go.Proofs.YtdaehflffecllaaW.PrintLast Go.Proofs.YtdaehflffecllaaW.PrintMore
/-- The box at g holds a slice of these bytes. -/
def C (W : World) (g : Nat) (xs : List Int) : Prop := ∃ A c, W.heap[g]? = some (.cells #[.slice A xs.length c] 22 (0, 0)) ∧ xs.length ≤ c ∧ Kd.C (Kd.int .u8) W A xs.length xs
/-- The closure over such a box; what it leads to (in ok). -/
def V (_d : Kd Int) (_e : Nat) (W : World) (_base : Nat) (ok : Nat → Prop) (v : Value) (xs : List Int) : Prop :=
  ∃ g A c, v = .func (.func 112) #[] #[.pointer (some ⟨g, 0, none⟩)] ∧ ok g ∧ W.heap[g]? = some (.cells #[.slice A xs.length c] 22 (0, 0)) ∧ xs.length ≤ c ∧ Kd.F (Kd.int .u8) W ok A xs.length xs
theorem lt_of {W : World} {g : Nat} {o : Obj} (h : W.heap[g]? = some o) : g < W.heap.size := by
  obtain ⟨h1, _⟩ := Array.getElem?_eq_some_iff.1 h
  exact h1
section
variable {d : Kd Int} {e base base' g : Nat} {ok ok' : Nat → Prop} {W w1 : World} {u v v1 : Value} {xs : List Int}
theorem C_below (h : C W g xs) (hb : Below W.heap.size W w1) : C w1 g xs := by
  obtain ⟨A, c, h1, h2, h3⟩ := h
  exact ⟨A, c, by rw [hb.block g (lt_of h1)]; exact h1, h2, Kd.C_below h3 hb⟩
theorem C_alloc (h : C W g xs) (o : Obj) : C (W.alloc o) g xs := C_below h (below_alloc (Below.refl _ _) o)
theorem C_drew (h : C W g xs) : C W.drew g xs := C_below h (below_drew (Below.refl _ _))
theorem C_drewN (h : C W g xs) (m : Nat) : C (W.drewN m) g xs := C_below h (pw_below_drewN (Below.refl _ _) m)
theorem V_slice (h : V d e W base ok v xs) : ∃ g : Nat, v = .func (.func 112) #[] #[.pointer (some ⟨g, 0, none⟩)] := by
  obtain ⟨g, A, c, hv, _⟩ := h
  exact ⟨g, hv⟩
theorem V_reads' (h : V d e W base ok (.func (.func 112) #[] #[.pointer (some ⟨g, 0, none⟩)]) xs) : True ∧ True ∧ C W g xs := by
  obtain ⟨g', A, c, hv, _, h1, h2, h3⟩ := h
  simp only [Value.func.injEq, Array.mk.injEq, List.cons.injEq, Value.pointer.injEq, Option.some.injEq, Addr.mk.injEq, and_true, true_and] at hv
  subst hv
  exact ⟨trivial, trivial, A, c, h1, h2, Kd.F_now h3⟩
theorem V_lower (h : V d e W base ok v xs) (_ : base' ≤ base) : V d e W base' ok v xs := h
theorem V_mono (h : V d e W base ok v xs) (hok : ∀ k, ok k → ok' k) : V d e W base ok' v xs := by
  obtain ⟨g, A, c, hv, h0, h1, h2, h3⟩ := h
  exact ⟨g, A, c, hv, hok g h0, h1, h2, Kd.F_mono h3 hok⟩
theorem V_below (h : V d e W base ok v xs) (hb : Below W.heap.size W w1) : V d e w1 base ok v xs := by
  obtain ⟨g, A, c, hv, h0, h1, h2, h3⟩ := h
  exact ⟨g, A, c, hv, h0, by rw [hb.block g (lt_of h1)]; exact h1, h2, Kd.F_below h3 hb⟩
theorem V_alloc (h : V d e W base ok v xs) (o : Obj) : V d e (W.alloc o) base ok v xs := V_below h (below_alloc (Below.refl _ _) o)
theorem V_drew (h : V d e W base ok v xs) : V d e W.drew base ok v xs := V_below h (below_drew (Below.refl _ _))
theorem V_drewN (h : V d e W base ok v xs) (m : Nat) : V d e (W.drewN m) base ok v xs := V_below h (pw_below_drewN (Below.refl _ _) m)
theorem V_elder' (h : V d e W base ok v xs) (hbase : ∀ k, u.ownBlock = some k → W.heap.size ≤ k) (hb : Below W.heap.size W w1) : V d e w1 base (fun k => ok k ∧ some k ≠ u.ownBlock) v xs := by
  obtain ⟨g, A, c, hv, h0, h1, h2, h3⟩ := h
  refine ⟨g, A, c, hv, ⟨h0, fun e => ?_⟩, by rw [hb.block g (lt_of h1)]; exact h1, h2, Kd.F_elder' h3 hbase hb⟩
  have := hbase g e.symm
  have := lt_of h1
  omega
end
end Go.Proofs.Ytdaehflffecllaa.Clo
