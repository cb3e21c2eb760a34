/- X448 of a secret number and a point's u is the u of that number times the point (the law TopCurves): part 20 of 22 of its proof: the row, lifted. The listed variables are tied to the program's text; no other condition. -/
import Derived.Test.YtkiaodihfofbnaaGreatDoorM18
import Derived.Test.YtkiaodihfofbnaaGreatDoorRows
import Derived.Test.YtkiaodihfofbnaaGreatDoorTie
import Derived.Test.YtkiaodihfofbnaaGreatDoorCards
import Derived.WalkKit
import Derived.ProofKit
import Derived.OpenShut
import Derived.DataReads
import Derived.ChangeArms
import Derived.ChangeSame
import Derived.ChangeOld
import Derived.SizedLaws
import Derived.LaidMore
import Derived.Stop.Joined
import Derived.SevenTiedAt
set_option linter.unusedVariables false
set_option linter.unusedSimpArgs false
namespace Go.Proofs.YtkiaodihfofbnaaGreatDoor.topCurves
open Go Go.ChangeShapes Go.WideShapes Go.ChangeAt Go.WideMaps Go.WideElems Go.RowKit

def numCell : Value → Int
  | .int _ z => z
  | _ => 0
section
variable {H : Type} {enc : TypeId × Value → H} {P : Program} {w : World} {base : Nat} {sp : Nat → Bool} {held : Bool}
theorem open_arr {t e : TypeId} {k : IntKind} {n : Nat} (ht : P.underlying t = some (.array n e)) (he : P.underlying e = some (.int k)) (hc : P.cellsOf e = 1) (hct : P.cellsOf t = n)
    {fuel : Nat} {cs : List Value} {x : DataW H × List MemPlace} (h : DataW.trod enc P w base sp held fuel t cs = some x) :
    ∃ zs : List Int, zs.length = n ∧ cs = zs.map (Value.int k) ∧ (∀ z ∈ zs, (Lit.int k z).wf = true) ∧ x.2 = [] := by
  cases fuel with
  | zero => simp [DataW.trod] at h
  | succ m =>
    have h2 : cs.length = n ∧ ∃ xs, ((List.range n).mapM fun i => DataW.trod enc P w base sp held m e ((cs.drop i).take 1)) = some xs ∧ x.2 = xs.flatMap (·.2) := by
      unfold DataW.trod at h
      rw [ht] at h
      simp only [hc, hct, Nat.mul_one] at h
      split at h
      · rename_i hl
        obtain ⟨xs, h1, rfl⟩ := Option.map_eq_some_iff.1 h
        exact ⟨hl, xs, h1, rfl⟩
      · cases h
    obtain ⟨hl, xs, hm, hx⟩ := h2
    have each : ∀ i, i < n → ∃ z, cs[i]? = some (Value.int k z) ∧ (Lit.int k z).wf = true := by
      intro i hi
      have hg := mapM_some_get hm i i (by simp [hi])
      have hxl := mapM_some_length hm
      rw [List.length_range] at hxl
      rw [List.getElem?_eq_getElem (by omega)] at hg
      obtain ⟨z, h1, _, h3⟩ := DataW.trod_int he hg
      refine ⟨z, ?_, h3⟩
      have h4 : ((cs.drop i).take 1)[0]? = some (Value.int k z) := by rw [h1]; rfl
      rw [List.getElem?_take, if_pos (by omega), List.getElem?_drop] at h4
      simpa using h4
    refine ⟨cs.map numCell, by simp [hl], ?_, ?_, ?_⟩
    · apply List.ext_getElem?
      intro i
      by_cases hi : i < n
      · obtain ⟨z, h1, _⟩ := each i hi
        simp [h1, numCell]
      · rw [List.getElem?_eq_none (by omega), List.getElem?_eq_none (by simp; omega)]
    · intro z hz
      obtain ⟨v, hv, rfl⟩ := List.mem_map.1 hz
      obtain ⟨i, hi, rfl⟩ := List.mem_iff_getElem.1 hv
      obtain ⟨z, h1, h2⟩ := each i (by omega)
      rw [List.getElem?_eq_getElem hi] at h1
      rw [Option.some.inj h1]
      exact h2
    · rw [hx]
      apply List.flatMap_eq_nil_iff.2
      intro y hy
      obtain ⟨i, _, hi⟩ := mapM_mem hm y hy
      obtain ⟨z, _, h2, _⟩ := DataW.trod_int he hi
      rw [h2]
end
/-- A parameter that is an array of whole numbers. -/
theorem open_array {H : Type} {enc : TypeId × Value → H} {P : Program} {w wo : World} {base : Nat} {sp : Nat → Bool} {held : Bool} {r : Reach} {b0 : Nat} {t e : TypeId} {k : IntKind} {n : Nat} {v : Value} {d : DataW H} {ps : List MemPlace}
    (ht : P.underlying t = some (.array n e)) (he : P.underlying e = some (.int k)) (hc : P.cellsOf e = 1) (hct : P.cellsOf t = n)
    (hval : Value.okWide P wo r b0 t v) (hd : DataW.Trod enc P w base sp held t v d ps) :
    ∃ zs : List Int, zs.length = n ∧ v = .agg ((zs.map (Value.int k)).toArray) ∧ (∀ z ∈ zs, (Lit.int k z).wf = true) ∧ ps = [] := by
  have hv : ∃ cs, v = .agg cs := by
    unfold Value.okWide at hval
    rw [ht] at hval
    obtain ⟨cs, h, _⟩ := hval
    exact ⟨cs, h⟩
  obtain ⟨cs, rfl⟩ := hv
  obtain ⟨fuel, hf⟩ := hd
  obtain ⟨zs, h1, h2, h3, h4⟩ := open_arr ht he hc hct hf
  refine ⟨zs, h1, ?_, h3, h4⟩
  have : cs.toList = zs.map (Value.int k) := h2
  rw [← this]
def spotC (l : List Int) (n : Int) : Array Value := (l.map (Value.int .u8) ++ [Value.int .i64 n]).toArray
theorem okWide_struct {P : Program} {wo : World} {r : Reach} {b0 : Nat} {t : TypeId} {fs : Array Field} {v : Value} (ht : P.underlying t = some (.struct fs)) (hval : Value.okWide P wo r b0 t v) : ∃ cs, v = .agg cs := by
  unfold Value.okWide at hval
  rw [ht] at hval
  obtain ⟨cs, h, _⟩ := hval
  exact ⟨cs, h⟩
set_option maxRecDepth 100000 in
/-- The spot. -/
theorem open_spot {H : Type} {enc : TypeId × Value → H} {w wo : World} {base : Nat} {sp : Nat → Bool} {held : Bool} {r : Reach} {b0 : Nat} {v : Value} {d : DataW H} {ps : List MemPlace}
    (hval : Value.okWide Tryz.prog wo r b0 24 v) (hd : DataW.Trod enc Tryz.prog w base sp held 24 v d ps) :
    ∃ (zs : List Int) (n : Int), zs.length = 57 ∧ v = .agg (spotC zs n) ∧ (∀ z ∈ zs, (Lit.int .u8 z).wf = true) ∧ ps = [] := by
  have hv := okWide_struct Tryz.underlying24 hval
  obtain ⟨cs, rfl⟩ := hv
  obtain ⟨fuel, hf⟩ := hd
  obtain ⟨y0, y1, m, hx, hl, h0, h1⟩ := trod_struct2 Tryz.underlying24 hf
  have c24 : Tryz.prog.cellsOf 24 = 58 := by kernel_rfl
  have c22 : Tryz.prog.cellsOf 22 = 57 := by kernel_rfl
  have c3 : Tryz.prog.cellsOf 3 = 1 := by kernel_rfl
  have c5 : Tryz.prog.cellsOf 5 = 1 := by kernel_rfl
  have hl' : cs.toList.length = 58 := hl.trans c24
  have h0' : DataW.trod enc Tryz.prog w base sp held m 22 ((cs.toList.drop 0).take 57) = some y0 := by rw [← c22]; exact h0
  have h1' : DataW.trod enc Tryz.prog w base sp held m 3 ((cs.toList.drop 57).take 1) = some y1 := by rw [← c3]; exact h1
  obtain ⟨zs, g1, g2, g3, g4⟩ := open_arr (P := Tryz.prog) (t := 22) (e := 5) (k := .u8) (n := 57) (by kernel_rfl) (by kernel_rfl) c5 c22 h0'
  obtain ⟨n, k1, k2, _⟩ := DataW.trod_int Tryz.underlying3 h1'
  refine ⟨zs, n, g1, ?_, g3, ?_⟩
  · have e : cs.toList = zs.map (Value.int .u8) ++ [.int .i64 n] := by
      rw [← g2, ← k1, List.drop_zero]
      rw [show (cs.toList.drop 57).take 1 = cs.toList.drop 57 from List.take_of_length_le (by rw [List.length_drop]; omega), List.take_append_drop]
    unfold spotC
    rw [← e]
  · have hp : ps = y0.2 ++ y1.2 := by
      have := congrArg Prod.snd hx
      exact this
    rw [hp, g4, k2]; rfl
theorem bytes_of {l : List Int} (h : ∀ z ∈ l, (Lit.int .u8 z).wf = true) : X.Bytes256 l := fun z hz => by
  have := h z hz
  simp [Lit.wf, IntKind.min, IntKind.max, IntKind.signed, IntKind.bits] at this
  omega

theorem own : ownKnob Tryz.prog.godebug = none := by kernel_rfl
theorem laidOut : laidOutB Tryz.prog = true := by kernel_rfl
/-- The door's own heap meets the condition. -/
theorem door_met (os : Os) (args : Array Value) : laidMetH Tryz.prog Rows.topCurvesRow.laid ((World.doorLaid Tryz.prog 24 os).forCall (fun _ _ => 0) ⟨#[], args, []⟩).memory :=
  laidMetH_of_parts3 (fuel := 8) (laidMet_of_run' 8 (by kernel_rfl) (by kernel_rfl)) (by kernel_rfl) (by kernel_rfl)
theorem walk {W : World} {l k : List Int} {n : Int} (hl : l.length = 57) (hb : X.Bytes256 l) (hk : k.length = 56) (hb' : X.Bytes256 k) :
    Calls Tryz.prog 3 #[.agg (spotC l n), .agg (k.map (Value.int .u8)).toArray] W fun e W' => e = .returned (.bool true) ∧ Below W.heap.size W W' := by
  have h := X.curves_plain hl hb n hb' hk W (fun _ => (0, 0))
  have e : X.argsV (fun _ => (0, 0)) [X.spot l n, .g (.agg [.r .u8 k])] = #[.agg (spotC l n), .agg (k.map (Value.int .u8)).toArray] := by
    simp only [X.argsV, List.map_cons, List.map_nil, X.spot, X.AV.val, X.G.val, X.flat_append, X.flat_vals]
    simp [X.flat, X.At.cells, X.At.val, spotC]
  rw [e] at h
  rcases h with ⟨_, h⟩ | ⟨v, w', h, _⟩
  · refine h.mono ?_
    rintro e W' ⟨v, rfl, rfl, hbl⟩
    exact ⟨rfl, hbl⟩
  · have he := X.enters_of X.fun3.at_ X.fun3.name X.fun3.body #[.agg (spotC l n), .agg (k.map (Value.int .u8)).toArray] W
    rw [he] at h
    cases h
def zeros (n : Nat) : List Value := List.replicate n (.int .u8 0)
set_option maxRecDepth 100000 in
theorem lifted (os : Os) (started : os.Started) (H : Type) (enc : TypeId × Value → H) :
    ReturnsInHanded {} Tryz.checked os 3 .any (fun w args => (Rows.topCurvesSpec.pre enc Tryz.prog Tryz.f3 [] false w args ∧ laidMetH Tryz.prog Rows.topCurvesRow.laid w) ∧ sizedMet enc Tryz.prog Tryz.f3 (OpenSpec.ofChange Rows.topCurvesSpec) false w args)
      (Rows.topCurvesSpec.post enc Tryz.prog Tryz.f3 false true false false) := by
  refine returnsInHanded_of_change_and (C := Tryz.checked) (X := fun w _ => laidMetH Tryz.prog Rows.topCurvesRow.laid w) (fun _ _ _ hh h => h.of_heap hh) own started (by kernel_rfl) Tryz.func3
    (ChangeSpec.witness_shaped (enc := enc) (C := Tryz.checked) (os := os) (X := fun w _ => laidMetH Tryz.prog Rows.topCurvesRow.laid w) false (World.doorLaid Tryz.prog 24 os) #[.agg (zeros 57 ++ [Value.int .i64 0]).toArray, .agg (zeros 56).toArray] 8 rfl (World.shaped_of_RefB (by kernel_rfl) (by kernel_rfl)) (by kernel_rfl) (by kernel_rfl) (by kernel_rfl) (door_met os _)) ?_
  intro W base args ds gs before hval0 hW _ _ hL _
  have hval : ∀ (j : Nat) t v, Tryz.f3.params[j]? = some t → args[j]? = some v → Value.okWide Tryz.prog W .any base t v := hval0
  have hW' := hW
  obtain ⟨p, q, hA0, hV, rfl, hfz, hnd⟩ := hW
  have hA : DataW.TrodAll enc Tryz.prog W 0 (fun _ => true) true Tryz.f3.params.toList args.toList ds p := hA0
  rw [Tryz.params3] at hA hval
  obtain ⟨v0, vs0, d0, ds0, p0, q0, hargs, rfl, rfl, h0, r0⟩ := trodAll_cons hA
  obtain ⟨v1, vs1, d1, ds1, p1, q1, rfl, rfl, rfl, h1, r1⟩ := trodAll_cons r0
  obtain ⟨rfl, rfl, rfl⟩ := trodAll_nil r1
  obtain rfl : args = #[v0, v1] := by cases args; simp_all
  obtain ⟨rfl, rfl⟩ := trodVars_none hV
  have k0 := h0
  have lt0 : ∀ x ∈ p0, x.block < W.heap.size := by obtain ⟨m, hm⟩ := k0; exact DataW.trod_lt m _ _ _ hm
  have k1 := h1
  have lt1 : ∀ x ∈ p1, x.block < W.heap.size := by obtain ⟨m, hm⟩ := k1; exact DataW.trod_lt m _ _ _ hm
  obtain ⟨l, n, hl, rfl, hwl, rfl⟩ := open_spot (hval 0 24 v0 rfl rfl) h0
  obtain ⟨k, hk, rfl, hwk, rfl⟩ := open_array Tryz.underlying25 Tryz.underlying5 (by kernel_rfl) (by kernel_rfl) (hval 1 25 v1 rfl rfl) h1
  clear hA0 hval0
  refine (walk hl (bytes_of hwl) hk (bytes_of hwk)).mono fun e W' ⟨he, bel⟩ => ?_
  subst he
  exact ⟨_, rfl, _, _, _, [], _, [], hW', trodAll_mk1 (shut_bool Tryz.underlying4 _), (trodAll_cons_mk (Below.trod laidOut (by kernel_rfl) (of_decide_eq_true (by kernel_rfl)) k0 bel lt0) (trodAll_cons_mk (Below.trod laidOut (by kernel_rfl) (of_decide_eq_true (by kernel_rfl)) k1 bel lt1) trodAll_mk0)), rfl, bel.frame _, fun h => by cases h⟩
end Go.Proofs.YtkiaodihfofbnaaGreatDoor.topCurves
