/- The law ScalarSame returns true whatever the input: S0 of its proof; no condition. (Joined by wip/shake.py.) -/
import Derived.Test.YtdaehflffecllaaProg
import Derived.Below
import Derived.WalkKit
import Derived.Test.YtdaehflffecllaaMScalarSameWWords
import Derived.Test.YtdaehflffecllaaMScalarSameWLast
import Derived.Test.YtdaehflffecllaaMScalarSameWMore
import Derived.Lib.SliceRun
import Derived.Laws.CopyOwn
namespace Go.Proofs.Ytdaehflffecllaa.N
open Go.RowKit Go.Proofs.YtdaehflffecllaaW.PrintWords Go.Proofs.YtdaehflffecllaaW.PrintLast Go.Proofs.YtdaehflffecllaaW.PrintMore
def g7 (a : List Int) (i : Nat) : Int := a.getD i 0
abbrev sv (a : List Int) : Array Value := #[.int .u64 (g7 a 0), .int .u64 (g7 a 1), .int .u64 (g7 a 2), .int .u64 (g7 a 3), .int .u64 (g7 a 4), .int .u64 (g7 a 5), .int .u64 (g7 a 6)]
abbrev rv (a : List Int) : Array Value := #[.int .u8 (g7 a 0), .int .u8 (g7 a 1), .int .u8 (g7 a 2), .int .u8 (g7 a 3), .int .u8 (g7 a 4), .int .u8 (g7 a 5), .int .u8 (g7 a 6), .int .u8 (g7 a 7), .int .u8 (g7 a 8), .int .u8 (g7 a 9), .int .u8 (g7 a 10), .int .u8 (g7 a 11), .int .u8 (g7 a 12), .int .u8 (g7 a 13), .int .u8 (g7 a 14), .int .u8 (g7 a 15), .int .u8 (g7 a 16), .int .u8 (g7 a 17), .int .u8 (g7 a 18), .int .u8 (g7 a 19), .int .u8 (g7 a 20), .int .u8 (g7 a 21), .int .u8 (g7 a 22), .int .u8 (g7 a 23), .int .u8 (g7 a 24), .int .u8 (g7 a 25), .int .u8 (g7 a 26), .int .u8 (g7 a 27), .int .u8 (g7 a 28), .int .u8 (g7 a 29), .int .u8 (g7 a 30), .int .u8 (g7 a 31), .int .u8 (g7 a 32), .int .u8 (g7 a 33), .int .u8 (g7 a 34), .int .u8 (g7 a 35), .int .u8 (g7 a 36), .int .u8 (g7 a 37), .int .u8 (g7 a 38), .int .u8 (g7 a 39), .int .u8 (g7 a 40), .int .u8 (g7 a 41), .int .u8 (g7 a 42), .int .u8 (g7 a 43), .int .u8 (g7 a 44), .int .u8 (g7 a 45), .int .u8 (g7 a 46), .int .u8 (g7 a 47), .int .u8 (g7 a 48), .int .u8 (g7 a 49), .int .u8 (g7 a 50), .int .u8 (g7 a 51), .int .u8 (g7 a 52), .int .u8 (g7 a 53), .int .u8 (g7 a 54), .int .u8 (g7 a 55), .int .u8 (g7 a 56)]
abbrev zv : Array Value := #[.int .u64 0, .int .u64 0, .int .u64 0, .int .u64 0, .int .u64 0, .int .u64 0, .int .u64 0]
def z7 : List Int := [0, 0, 0, 0, 0, 0, 0]
/-- The words of the variable at g are these. -/
def c7 (W : World) (g : Nat) (a : List Int) : Prop := W.cell? ⟨g, 0, none⟩ = some (.int .u64 (g7 a 0)) ∧ W.cell? ⟨g, 1, none⟩ = some (.int .u64 (g7 a 1)) ∧ W.cell? ⟨g, 2, none⟩ = some (.int .u64 (g7 a 2)) ∧ W.cell? ⟨g, 3, none⟩ = some (.int .u64 (g7 a 3)) ∧ W.cell? ⟨g, 4, none⟩ = some (.int .u64 (g7 a 4)) ∧ W.cell? ⟨g, 5, none⟩ = some (.int .u64 (g7 a 5)) ∧ W.cell? ⟨g, 6, none⟩ = some (.int .u64 (g7 a 6))
section
variable {W : World} {g p : Nat} {t : TypeId} {cs : Array Value} {a : List Int}
theorem c7_of (h : W.heap[g]? = some (.cells cs t (0, 0))) (e : cs = sv a) : c7 W g a := by
  subst e
  exact ⟨(blk_cell h 0).trans rfl, (blk_cell h 1).trans rfl, (blk_cell h 2).trans rfl, (blk_cell h 3).trans rfl, (blk_cell h 4).trans rfl, (blk_cell h 5).trans rfl, (blk_cell h 6).trans rfl⟩
theorem fz7 (h : W.heap[g]? = some (.cells cs t (0, 0))) : W.frozen? ⟨g, 0, none⟩ = false ∧ W.frozen? ⟨g, 1, none⟩ = false ∧ W.frozen? ⟨g, 2, none⟩ = false ∧ W.frozen? ⟨g, 3, none⟩ = false ∧ W.frozen? ⟨g, 4, none⟩ = false ∧ W.frozen? ⟨g, 5, none⟩ = false ∧ W.frozen? ⟨g, 6, none⟩ = false := ⟨blk_frozen h 0, blk_frozen h 1, blk_frozen h 2, blk_frozen h 3, blk_frozen h 4, blk_frozen h 5, blk_frozen h 6⟩
theorem cell_far7 {a : Addr} {o : Option Value} (h : a.block ≠ p) {v0 v1 v2 v3 v4 v5 v6 : Value} (hc : W.cell? a = o) : (World.setCell (World.setCell (World.setCell (World.setCell (World.setCell (World.setCell (World.setCell W ⟨p, 0, none⟩ v0) ⟨p, 1, none⟩ v1) ⟨p, 2, none⟩ v2) ⟨p, 3, none⟩ v3) ⟨p, 4, none⟩ v4) ⟨p, 5, none⟩ v5) ⟨p, 6, none⟩ v6).cell? a = o := by
  refine (cell_far (p := ⟨p, 6, none⟩) h _).trans ?_
  refine (cell_far (p := ⟨p, 5, none⟩) h _).trans ?_
  refine (cell_far (p := ⟨p, 4, none⟩) h _).trans ?_
  refine (cell_far (p := ⟨p, 3, none⟩) h _).trans ?_
  refine (cell_far (p := ⟨p, 2, none⟩) h _).trans ?_
  refine (cell_far (p := ⟨p, 1, none⟩) h _).trans ?_
  refine (cell_far (p := ⟨p, 0, none⟩) h _).trans ?_
  exact hc
theorem cell_put7 {ad : Addr} (h : ad.block ≠ p) (a : List Int) : (World.setCell (World.setCell (World.setCell (World.setCell (World.setCell (World.setCell (World.setCell W ⟨p, 0, none⟩ (.int .u64 (g7 a 0))) ⟨p, 1, none⟩ (.int .u64 (g7 a 1))) ⟨p, 2, none⟩ (.int .u64 (g7 a 2))) ⟨p, 3, none⟩ (.int .u64 (g7 a 3))) ⟨p, 4, none⟩ (.int .u64 (g7 a 4))) ⟨p, 5, none⟩ (.int .u64 (g7 a 5))) ⟨p, 6, none⟩ (.int .u64 (g7 a 6))).cell? ad = W.cell? ad := cell_far7 h rfl
theorem R_far7 {α : Type} {d : Kd α} {e base : Nat} {ok : Nat → Prop} {v : Value} {xs : List α} (h : Kd.R d e W base ok v xs) (hok : ∀ k, ok k → k ≠ p) {v0 v1 v2 v3 v4 v5 v6 : Value} : Kd.R d e (World.setCell (World.setCell (World.setCell (World.setCell (World.setCell (World.setCell (World.setCell W ⟨p, 0, none⟩ v0) ⟨p, 1, none⟩ v1) ⟨p, 2, none⟩ v2) ⟨p, 3, none⟩ v3) ⟨p, 4, none⟩ v4) ⟨p, 5, none⟩ v5) ⟨p, 6, none⟩ v6) base ok v xs := by
  refine Kd.R_far (p := ⟨p, 6, none⟩) ?_ hok _
  refine Kd.R_far (p := ⟨p, 5, none⟩) ?_ hok _
  refine Kd.R_far (p := ⟨p, 4, none⟩) ?_ hok _
  refine Kd.R_far (p := ⟨p, 3, none⟩) ?_ hok _
  refine Kd.R_far (p := ⟨p, 2, none⟩) ?_ hok _
  refine Kd.R_far (p := ⟨p, 1, none⟩) ?_ hok _
  refine Kd.R_far (p := ⟨p, 0, none⟩) ?_ hok _
  exact h
theorem c7_far7 (h : g ≠ p) {v0 v1 v2 v3 v4 v5 v6 : Value} (hc : c7 W g a) : c7 (World.setCell (World.setCell (World.setCell (World.setCell (World.setCell (World.setCell (World.setCell W ⟨p, 0, none⟩ v0) ⟨p, 1, none⟩ v1) ⟨p, 2, none⟩ v2) ⟨p, 3, none⟩ v3) ⟨p, 4, none⟩ v4) ⟨p, 5, none⟩ v5) ⟨p, 6, none⟩ v6) g a := by
  obtain ⟨h0, h1, h2, h3, h4, h5, h6⟩ := hc
  exact ⟨cell_far7 (a := ⟨g, 0, none⟩) h h0, cell_far7 (a := ⟨g, 1, none⟩) h h1, cell_far7 (a := ⟨g, 2, none⟩) h h2, cell_far7 (a := ⟨g, 3, none⟩) h h3, cell_far7 (a := ⟨g, 4, none⟩) h h4, cell_far7 (a := ⟨g, 5, none⟩) h h5, cell_far7 (a := ⟨g, 6, none⟩) h h6⟩
theorem blk_put7 {x0 x1 x2 x3 x4 x5 x6 v0 v1 v2 v3 v4 v5 v6 : Value} (h : W.heap[p]? = some (.cells #[x0, x1, x2, x3, x4, x5, x6] t (0, 0))) : (World.setCell (World.setCell (World.setCell (World.setCell (World.setCell (World.setCell (World.setCell W ⟨p, 0, none⟩ v0) ⟨p, 1, none⟩ v1) ⟨p, 2, none⟩ v2) ⟨p, 3, none⟩ v3) ⟨p, 4, none⟩ v4) ⟨p, 5, none⟩ v5) ⟨p, 6, none⟩ v6).heap[p]? = some (.cells #[v0, v1, v2, v3, v4, v5, v6] t (0, 0)) := by
  refine blk_put (cs := #[v0, v1, v2, v3, v4, v5, x6]) ?_ 6 _ rfl
  refine blk_put (cs := #[v0, v1, v2, v3, v4, x5, x6]) ?_ 5 _ rfl
  refine blk_put (cs := #[v0, v1, v2, v3, x4, x5, x6]) ?_ 4 _ rfl
  refine blk_put (cs := #[v0, v1, v2, x3, x4, x5, x6]) ?_ 3 _ rfl
  refine blk_put (cs := #[v0, v1, x2, x3, x4, x5, x6]) ?_ 2 _ rfl
  refine blk_put (cs := #[v0, x1, x2, x3, x4, x5, x6]) ?_ 1 _ rfl
  refine blk_put (cs := #[x0, x1, x2, x3, x4, x5, x6]) ?_ 0 _ rfl
  exact h
theorem blk_put7z {v0 v1 v2 v3 v4 v5 v6 : Value} (h : W.heap[p]? = some (.cells zv t (0, 0))) : (World.setCell (World.setCell (World.setCell (World.setCell (World.setCell (World.setCell (World.setCell W ⟨p, 0, none⟩ v0) ⟨p, 1, none⟩ v1) ⟨p, 2, none⟩ v2) ⟨p, 3, none⟩ v3) ⟨p, 4, none⟩ v4) ⟨p, 5, none⟩ v5) ⟨p, 6, none⟩ v6).heap[p]? = some (.cells #[v0, v1, v2, v3, v4, v5, v6] t (0, 0)) := blk_put7 h
theorem blk_far7 (h : W.heap[g]? = some (.cells cs t (0, 0))) (hp : g ≠ p) {v0 v1 v2 v3 v4 v5 v6 : Value} : (World.setCell (World.setCell (World.setCell (World.setCell (World.setCell (World.setCell (World.setCell W ⟨p, 0, none⟩ v0) ⟨p, 1, none⟩ v1) ⟨p, 2, none⟩ v2) ⟨p, 3, none⟩ v3) ⟨p, 4, none⟩ v4) ⟨p, 5, none⟩ v5) ⟨p, 6, none⟩ v6).heap[g]? = some (.cells cs t (0, 0)) := by
  refine blk_far ?_ (p := ⟨p, 6, none⟩) hp _
  refine blk_far ?_ (p := ⟨p, 5, none⟩) hp _
  refine blk_far ?_ (p := ⟨p, 4, none⟩) hp _
  refine blk_far ?_ (p := ⟨p, 3, none⟩) hp _
  refine blk_far ?_ (p := ⟨p, 2, none⟩) hp _
  refine blk_far ?_ (p := ⟨p, 1, none⟩) hp _
  refine blk_far ?_ (p := ⟨p, 0, none⟩) hp _
  exact h
end
theorem bel {w0 w w1 : World} (h : Aside0 (Below w0.heap.size w0 w)) (hb : Below w.heap.size w w1) : Aside0 (Below w0.heap.size w0 w1) := ⟨below_step h.out hb⟩
theorem C_row {W : World} {g : Nat} {t : TypeId} {k : IntKind} {xs : List Int} (h : W.heap[g]? = some (.cells (xs.map (Value.int k)).toArray t (0, 0))) (hl : xs.length ≤ 9223372036854775807) : Kd.C (Kd.int k) W (some ⟨g, 0, none⟩) xs.length xs := by
  refine Kd.C_of_reads (enc := Value.int k) (d := (0 : Int)) (h1 := fun _ => rfl) ⟨rfl, hl, fun _ => ⟨_, rfl, fun j hj => ?_⟩⟩
  have e : (⟨g, 0, none⟩ : Addr).add j = ⟨g, j, none⟩ := by simp [Addr.add, eq_comm]
  rw [e, blk_cell h j]
  simp only [List.getElem?_toArray, List.getElem?_map, List.getElem?_eq_getElem hj, Option.map_some, List.getD_eq_getElem?_getD, Option.getD_some]
/-- The words, and the bytes, as lists. -/
def l7 (a : List Int) : List Int := [g7 a 0, g7 a 1, g7 a 2, g7 a 3, g7 a 4, g7 a 5, g7 a 6]
def l57 (a : List Int) : List Int := [g7 a 0, g7 a 1, g7 a 2, g7 a 3, g7 a 4, g7 a 5, g7 a 6, g7 a 7, g7 a 8, g7 a 9, g7 a 10, g7 a 11, g7 a 12, g7 a 13, g7 a 14, g7 a 15, g7 a 16, g7 a 17, g7 a 18, g7 a 19, g7 a 20, g7 a 21, g7 a 22, g7 a 23, g7 a 24, g7 a 25, g7 a 26, g7 a 27, g7 a 28, g7 a 29, g7 a 30, g7 a 31, g7 a 32, g7 a 33, g7 a 34, g7 a 35, g7 a 36, g7 a 37, g7 a 38, g7 a 39, g7 a 40, g7 a 41, g7 a 42, g7 a 43, g7 a 44, g7 a 45, g7 a 46, g7 a 47, g7 a 48, g7 a 49, g7 a 50, g7 a 51, g7 a 52, g7 a 53, g7 a 54, g7 a 55, g7 a 56]
theorem C_sv {W : World} {g : Nat} {t : TypeId} {a : List Int} (h : W.heap[g]? = some (.cells (sv a) t (0, 0))) : Kd.C (Kd.int .u64) W (some ⟨g, 0, none⟩) (l7 a).length (l7 a) := C_row (xs := l7 a) h (by simp [l7])
theorem C_rv {W : World} {g : Nat} {t : TypeId} {a : List Int} (h : W.heap[g]? = some (.cells (rv a) t (0, 0))) : Kd.C (Kd.int .u8) W (some ⟨g, 0, none⟩) (l57 a).length (l57 a) := C_row (xs := l57 a) h (show 57 ≤ 9223372036854775807 by omega)
/-- The first seven words of a row, noughts behind. -/
def pk (l : List Int) : List Int := [g7 l 0, g7 l 1, g7 l 2, g7 l 3, g7 l 4, g7 l 5, g7 l 6]
theorem pk_splice (l : List Int) : (splice zv.toList 0 ((l.take 7).map (Value.int .u64))).toArray = sv (pk l) := by
  match l with
  | [] => rfl
  | [_] => rfl
  | [_, _] => rfl
  | [_, _, _] => rfl
  | [_, _, _, _] => rfl
  | [_, _, _, _, _] => rfl
  | [_, _, _, _, _, _] => rfl
  | _ :: _ :: _ :: _ :: _ :: _ :: _ :: _ => rfl
/-- What a copy of a row's cells reads. -/
theorem C_cells {W : World} {A : Option Addr} {l : List Int} {n : Nat} (h : Kd.C (Kd.int .u64) W A l.length l) (hp : 0 < ((l.take n).map (Value.int .u64)).length) : ∃ ad, A = some ad ∧ ∀ j v, ((l.take n).map (Value.int .u64))[j]? = some v → W.cell? (ad.add j) = some v := by
  have hr := Kd.reads_of_C (d := (0 : Int)) h
  have hl : 0 < l.length := by simp at hp; omega
  obtain ⟨ad, e, hc⟩ := hr.2.2 hl
  refine ⟨ad, e, fun j v hj => ?_⟩
  obtain ⟨hj1, hj2⟩ := List.getElem?_eq_some_iff.1 hj
  have hj3 : j < l.length := by simp at hj1; omega
  rw [hc j hj3, ← hj2]
  simp [List.getD_eq_getElem?_getD, List.getElem?_eq_getElem hj3]
end Go.Proofs.Ytdaehflffecllaa.N
