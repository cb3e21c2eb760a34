/- The law ScalarSame returns true whatever the input: R0 of its proof; no condition. (Joined by wip/shake.py.) -/
import Derived.WalkKit
import Derived.ProofKit
import Derived.OpenShut
import Derived.DataReads
import Derived.ChangeArms
namespace Go.Proofs.Ytdaehflffecllaa.R0
open Go Go.ChangeShapes Go.WideShapes Go.ChangeAt
def numCell : Value → Int
  | .int _ z => z
  | _ => 0
section
variable {H : Type} {enc : TypeId × Value → H} {P : Program} {w : World} {base : Nat} {sp : Nat → Bool} {held : Bool}
theorem open_arr {t e : TypeId} {k : IntKind} {n : Nat} (ht : P.underlying t = some (.array n e)) (he : P.underlying e = some (.int k)) (hc : P.cellsOf e = 1) (hct : P.cellsOf t = n)
    {fuel : Nat} {cs : List Value} {x : DataW H × List MemPlace} (h : DataW.trod enc P w base sp held fuel t cs = some x) :
    ∃ zs : List Int, zs.length = n ∧ cs = zs.map (Value.int k) ∧ (∀ z ∈ zs, (Lit.int k z).wf = true) ∧ x.2 = [] := by
  cases fuel with
  | zero => simp [DataW.trod] at h
  | succ m =>
    have h2 : cs.length = n ∧ ∃ xs, ((List.range n).mapM fun i => DataW.trod enc P w base sp held m e ((cs.drop i).take 1)) = some xs ∧ x.2 = xs.flatMap (·.2) := by
      unfold DataW.trod at h
      rw [ht] at h
      simp only [hc, hct, Nat.mul_one] at h
      split at h
      · rename_i hl
        obtain ⟨xs, h1, rfl⟩ := Option.map_eq_some_iff.1 h
        exact ⟨hl, xs, h1, rfl⟩
      · cases h
    obtain ⟨hl, xs, hm, hx⟩ := h2
    have each : ∀ i, i < n → ∃ z, cs[i]? = some (Value.int k z) ∧ (Lit.int k z).wf = true := by
      intro i hi
      have hg := mapM_some_get hm i i (by simp [hi])
      have hxl := mapM_some_length hm
      rw [List.length_range] at hxl
      rw [List.getElem?_eq_getElem (by omega)] at hg
      obtain ⟨z, h1, _, h3⟩ := DataW.trod_int he hg
      refine ⟨z, ?_, h3⟩
      have h4 : ((cs.drop i).take 1)[0]? = some (Value.int k z) := by rw [h1]; rfl
      rw [List.getElem?_take, if_pos (by omega), List.getElem?_drop] at h4
      simpa using h4
    refine ⟨cs.map numCell, by simp [hl], ?_, ?_, ?_⟩
    · apply List.ext_getElem?
      intro i
      by_cases hi : i < n
      · obtain ⟨z, h1, _⟩ := each i hi
        simp [h1, numCell]
      · rw [List.getElem?_eq_none (by omega), List.getElem?_eq_none (by simp; omega)]
    · intro z hz
      obtain ⟨v, hv, rfl⟩ := List.mem_map.1 hz
      obtain ⟨i, hi, rfl⟩ := List.mem_iff_getElem.1 hv
      obtain ⟨z, h1, h2⟩ := each i (by omega)
      rw [List.getElem?_eq_getElem hi] at h1
      rw [Option.some.inj h1]
      exact h2
    · rw [hx]
      apply List.flatMap_eq_nil_iff.2
      intro y hy
      obtain ⟨i, _, hi⟩ := mapM_mem hm y hy
      obtain ⟨z, _, h2, _⟩ := DataW.trod_int he hi
      rw [h2]
end
/-- A parameter that is an array of whole numbers. -/
theorem open_array {H : Type} {enc : TypeId × Value → H} {P : Program} {w wo : World} {base : Nat} {sp : Nat → Bool} {held : Bool} {r : Reach} {b0 : Nat} {t e : TypeId} {k : IntKind} {n : Nat} {v : Value} {d : DataW H} {ps : List MemPlace}
    (ht : P.underlying t = some (.array n e)) (he : P.underlying e = some (.int k)) (hc : P.cellsOf e = 1) (hct : P.cellsOf t = n)
    (hval : Value.okWide P wo r b0 t v) (hd : DataW.Trod enc P w base sp held t v d ps) :
    ∃ zs : List Int, zs.length = n ∧ v = .agg ((zs.map (Value.int k)).toArray) ∧ (∀ z ∈ zs, (Lit.int k z).wf = true) ∧ ps = [] := by
  have hv : ∃ cs, v = .agg cs := by
    unfold Value.okWide at hval
    rw [ht] at hval
    obtain ⟨cs, h, _⟩ := hval
    exact ⟨cs, h⟩
  obtain ⟨cs, rfl⟩ := hv
  obtain ⟨fuel, hf⟩ := hd
  obtain ⟨zs, h1, h2, h3, h4⟩ := open_arr ht he hc hct hf
  refine ⟨zs, h1, ?_, h3, h4⟩
  have : cs.toList = zs.map (Value.int k) := h2
  rw [← this]
end Go.Proofs.Ytdaehflffecllaa.R0
