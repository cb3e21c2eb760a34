/- X448 of a secret number and a point's u is the u of that number times the point (the law TopCurves): part 1 of 22 of its proof: what one operation of the program does, reckoned on blocks of one's own. No condition. -/
import Derived.Orders
import Derived.Scope
import Derived.Below
import Derived.KernelRfl
import Derived.Laws.Sem
import Derived.Laws.World
import Derived.RangeFuncOwn
set_option linter.unusedVariables false
set_option linter.unusedSimpArgs false
namespace Go.Proofs.YtkiaodihfofbnaaGreatDoor.X
open Go Go.RowKit

/-- An element: eight limbs below 2^56 + 2^8. -/
structure El where
  a0 : Nat
  a1 : Nat
  a2 : Nat
  a3 : Nat
  a4 : Nat
  a5 : Nat
  a6 : Nat
  a7 : Nat
  ok : a0 < 72057594037928192 ∧ a1 < 72057594037928192 ∧ a2 < 72057594037928192 ∧ a3 < 72057594037928192 ∧ a4 < 72057594037928192 ∧ a5 < 72057594037928192 ∧ a6 < 72057594037928192 ∧ a7 < 72057594037928192

def El.cells (x : El) : List Value := [.int .u64 (x.a0 : Int), .int .u64 (x.a1 : Int), .int .u64 (x.a2 : Int), .int .u64 (x.a3 : Int), .int .u64 (x.a4 : Int), .int .u64 (x.a5 : Int), .int .u64 (x.a6 : Int), .int .u64 (x.a7 : Int)]

def dcells (n : Nat) : List Value := [.int .u64 ((n / 18446744073709551616 % 18446744073709551616 : Nat) : Int), .int .u64 ((n % 18446744073709551616 : Nat) : Int)]

def pcells (p : El × El × El) : List Value := p.1.cells ++ (p.2.1.cells ++ p.2.2.cells)

/-- What lies in cells: a value of one cell; an element; a number of two words; a row of numbers; a row of points; a pointer into a block of one's own (or one that is only read); a slice from such a block's begin; a function with what it has caught. -/
inductive At where
  | v (x : Value)
  | e (x : El)
  | d (n : Nat)
  | r (k : IntKind) (l : List Int)
  | t (l : List (El × El × El))
  | p (k off : Nat)
  | s (k len : Nat) (cap : Option Nat)
  | c (fn : FuncId) (first : List El) (cap : List Nat)

/-- Where the blocks lie, and how much room they have. -/
abbrev Rho := Nat → Nat × Nat

def At.val (ρ : Rho) : At → Value
  | .v x => x
  | .e x => .agg x.cells.toArray
  | .d n => .agg (dcells n).toArray
  | .r k l => .agg (l.map (Value.int k)).toArray
  | .t l => .agg (l.flatMap pcells).toArray
  | .p k off => .pointer (some ⟨(ρ k).1, off, none⟩)
  | .s k len cap => .slice (some ⟨(ρ k).1, 0, none⟩) len (cap.getD (ρ k).2)
  | .c fn first cap => .func (.func fn) (if first.isEmpty then #[] else #[.agg (first.flatMap El.cells).toArray]) (cap.map fun k => Value.pointer (some ⟨(ρ k).1, 0, none⟩)).toArray

def At.cells (ρ : Rho) : At → List Value
  | .e x => x.cells
  | .d n => dcells n
  | .r k l => l.map (Value.int k)
  | .t l => l.flatMap pcells
  | x => [x.val ρ]

def At.w : At → Nat
  | .e _ => 8
  | .d _ => 2
  | .r _ l => l.length
  | .t l => 24 * l.length
  | _ => 1

def flat (ρ : Rho) (l : List At) : List Value := l.flatMap (At.cells ρ)
def width (l : List At) : Nat := (l.map At.w).foldr (· + ·) 0

/-- Nothing of several cells stands for one. -/
def At.ok : At → Bool
  | .v (.agg _) => false
  | .v (.tuple _) => false
  | _ => true

inductive G where
  | a (x : At)
  | agg (l : List At)

def G.val (ρ : Rho) : G → Value
  | .a x => x.val ρ
  | .agg l => .agg (flat ρ l).toArray

def G.atoms : G → List At
  | .a x => [x]
  | .agg l => l

inductive AV where
  | g (x : G)
  | tup (l : List G)

def AV.val (ρ : Rho) : AV → Value
  | .g x => x.val ρ
  | .tup l => .tuple (l.map (G.val ρ)).toArray

def AV.atoms : AV → List At
  | .g x => x.atoms
  | .tup l => l.flatMap G.atoms

/-- Which blocks a value names. -/
def At.ids : At → List Nat
  | .p k _ => [k]
  | .s k _ _ => [k]
  | .c _ _ cap => cap
  | _ => []
def idsA (l : List At) : List Nat := l.flatMap At.ids
def AV.ids (x : AV) : List Nat := idsA x.atoms

structure Blk where
  cs : List At
  t : TypeId
  opn : Bool
  own : Bool

def Holds (ρ : Rho) (w : World) (k : Nat) (b : Blk) : Prop :=
  ∃ rest : List Value, (b.opn = false → rest = []) ∧ w.heap[(ρ k).1]? = some (.cells (flat ρ b.cs ++ rest).toArray b.t (0, 0))

/-- Where a function began, and a later world from which on one looks. -/
structure Base where
  n : Nat
  w : World
  le : n ≤ w.heap.size
  /-- What must lie as it lay. -/
  F : Nat → Prop
  lt : ∀ g, F g → g < w.heap.size
instance : Coe World Base := ⟨fun w => ⟨w.heap.size, w, Nat.le_refl _, fun _ => False, fun _ h => h.elim⟩⟩
theorem keeps_below {w w' : World} (h : Below w.heap.size w w') : KeepsOthers w w' := ⟨h.size, fun k _ hk _ => (h.block k (Array.getElem?_eq_some_iff.1 hk).1).trans hk⟩

structure Ref (w0 : Base) (ρ : Rho) (w : World) (H : Nat → Option Blk) : Prop where
  below : Below w0.n w0.w w
  holds : ∀ k b, H k = some b → Holds ρ w k b
  own : ∀ k b, H k = some b → b.own = true → w0.n ≤ (ρ k).1
  ext : ∀ k b, H k = some b → b.own = false → (ρ k).1 < w0.n
  inj : ∀ k k' b b', H k = some b → H k' = some b' → b.own = true → b'.own = true → (ρ k).1 = (ρ k').1 → k = k'
  others : KeepsOthers w0.w w
  free : ∀ k b, H k = some b → b.own = true → ¬ w0.F (ρ k).1
  keep : ∀ g, w0.F g → w.heap[g]? = w0.w.heap[g]?

/-! ### Renaming -/
theorem At.val_congr {ρ ρ' : Rho} {x : At} (h : ∀ k ∈ x.ids, ρ' k = ρ k) : x.val ρ' = x.val ρ := by
  cases x with
  | v x => rfl
  | e x => rfl
  | d n => rfl
  | r k l => rfl
  | t l => rfl
  | p k off => simp [At.val, h k (by simp [At.ids])]
  | s k len cap => simp [At.val, h k (by simp [At.ids])]
  | c fn first cap =>
    simp only [At.val, Value.func.injEq, true_and]
    congr 1
    exact List.map_congr_left fun k hk => by rw [h k (by simpa [At.ids] using hk)]
theorem At.cells_congr {ρ ρ' : Rho} {x : At} (h : ∀ k ∈ x.ids, ρ' k = ρ k) : x.cells ρ' = x.cells ρ := by
  cases x <;> first | rfl | (simp only [At.cells]; rw [At.val_congr h])
theorem flat_congr {ρ ρ' : Rho} : ∀ {l : List At}, (∀ k ∈ idsA l, ρ' k = ρ k) → flat ρ' l = flat ρ l
  | [], _ => rfl
  | x :: l, h => by
    have h1 := At.cells_congr (x := x) fun k hk => h k (by simp [idsA, hk])
    have h2 := flat_congr (l := l) fun k hk => h k (by
      simp only [idsA, List.flatMap_cons, List.mem_append] at hk ⊢
      exact Or.inr hk)
    unfold flat at h2 ⊢
    simp only [List.flatMap_cons, h1, h2]
theorem G.val_congr {ρ ρ' : Rho} {x : G} (h : ∀ k ∈ idsA x.atoms, ρ' k = ρ k) : x.val ρ' = x.val ρ := by
  cases x with
  | a x => exact At.val_congr fun k hk => h k (by simpa [G.atoms, idsA] using hk)
  | agg l => simp only [G.val]; rw [flat_congr (l := l) h]
theorem AV.val_congr {ρ ρ' : Rho} {x : AV} (h : ∀ k ∈ x.ids, ρ' k = ρ k) : x.val ρ' = x.val ρ := by
  cases x with
  | g x => exact G.val_congr h
  | tup l =>
    simp only [AV.val]
    congr 2
    refine List.map_congr_left fun y hy => G.val_congr fun k hk => h k ?_
    simp only [AV.ids, AV.atoms, idsA, List.mem_flatMap] at hk ⊢
    obtain ⟨z, hz, hk⟩ := hk
    exact ⟨z, ⟨y, hy, hz⟩, hk⟩

theorem flatMap_pcells_length : ∀ l : List (El × El × El), (l.flatMap pcells).length = 24 * l.length
  | [] => rfl
  | p :: l => by
    have h : (pcells p).length = 24 := rfl
    rw [List.flatMap_cons, List.length_append, h, flatMap_pcells_length l, List.length_cons]
    omega
theorem At.cells_length (ρ : Rho) (x : At) : (x.cells ρ).length = x.w := by
  cases x with
  | r k l => exact List.length_map _
  | t l => exact flatMap_pcells_length l
  | _ => rfl
theorem flat_length (ρ : Rho) : ∀ l : List At, (flat ρ l).length = width l
  | [] => rfl
  | x :: l => by
    have := flat_length ρ l
    unfold flat width at this ⊢
    simp only [List.flatMap_cons, List.length_append, At.cells_length, List.map_cons, List.foldr_cons, this]
theorem flat_append (ρ : Rho) (a b : List At) : flat ρ (a ++ b) = flat ρ a ++ flat ρ b := by simp [flat]
theorem width_append (a b : List At) : width (a ++ b) = width a + width b := by
  rw [← flat_length (fun _ => (0, 0)), flat_append, List.length_append, flat_length, flat_length]

def vals (l : List Value) : List At := l.map .v
theorem flat_vals (ρ : Rho) (l : List Value) : flat ρ (vals l) = l := by
  induction l with
  | nil => rfl
  | cons x l ih =>
    have e : vals (x :: l) = At.v x :: vals l := rfl
    rw [e]
    show ([x] : List Value) ++ flat ρ (vals l) = x :: l
    rw [ih]; rfl
/-- Elements, and numbers of two words, told by their cells. -/
def expand : List At → List At
  | [] => []
  | .e x :: l => vals x.cells ++ expand l
  | .d n :: l => vals (dcells n) ++ expand l
  | x :: l => x :: expand l
theorem flat_expand (ρ : Rho) : ∀ l : List At, flat ρ (expand l) = flat ρ l
  | [] => rfl
  | .e x :: l => by
    rw [expand, flat_append, flat_vals, flat_expand ρ l]; rfl
  | .d n :: l => by
    rw [expand, flat_append, flat_vals, flat_expand ρ l]; rfl
  | .v _ :: l | .r _ _ :: l | .t _ :: l | .p _ _ :: l | .s _ _ _ :: l | .c _ _ _ :: l => by
    rw [expand]
    · show _ ++ flat ρ (expand l) = _ ++ flat ρ l
      rw [flat_expand ρ l]
    all_goals (intros; contradiction)

/-! ### Cutting a row of cells -/
def cut : List At → Nat → Option (List At × List At)
  | l, 0 => some ([], l)
  | [], _ + 1 => none
  | x :: l, n + 1 => if x.w ≤ n + 1 then (match cut l (n + 1 - x.w) with | some (a, b) => some (x :: a, b) | none => none) else none
theorem cut_spec : ∀ (l : List At) (n : Nat) (a b : List At), cut l n = some (a, b) → l = a ++ b ∧ width a = n
  | l, 0, a, b, h => by
    rw [cut.eq_def] at h
    simp only [Option.some.injEq, Prod.mk.injEq] at h
    obtain ⟨rfl, rfl⟩ := h
    exact ⟨rfl, rfl⟩
  | [], n + 1, a, b, h => by simp [cut] at h
  | x :: l, n + 1, a, b, h => by
    rw [cut] at h
    split at h
    · rename_i hw
      split at h
      · rename_i a' b' hc
        simp only [Option.some.injEq, Prod.mk.injEq] at h
        obtain ⟨rfl, rfl⟩ := h
        obtain ⟨e1, e2⟩ := cut_spec l _ _ _ hc
        refine ⟨by rw [e1]; rfl, ?_⟩
        show x.w + width a' = n + 1
        omega
      · cases h
    · cases h
/-- What lies ahead of 'off', the 'n' cells there, and what lies behind. -/
def mid (l : List At) (off n : Nat) : Option (List At × List At × List At) :=
  match cut l off with
  | some (a, r) => match cut r n with
    | some (m, b) => some (a, m, b)
    | none => none
  | none => none
theorem mid_spec {l : List At} {off n : Nat} {a m b : List At} (h : mid l off n = some (a, m, b)) : l = a ++ (m ++ b) ∧ width a = off ∧ width m = n := by
  unfold mid at h
  split at h
  · rename_i a' r hc
    split at h
    · rename_i m' b' hc'
      simp only [Option.some.injEq, Prod.mk.injEq] at h
      obtain ⟨rfl, rfl, rfl⟩ := h
      obtain ⟨e1, e2⟩ := cut_spec _ _ _ _ hc
      obtain ⟨e3, e4⟩ := cut_spec _ _ _ _ hc'
      exact ⟨by rw [e1, e3], e2, e4⟩
    · cases h
  · cases h
theorem mid_flat (ρ : Rho) {l : List At} {off n : Nat} {a m b : List At} (h : mid l off n = some (a, m, b)) :
    flat ρ l = flat ρ a ++ (flat ρ m ++ flat ρ b) ∧ (flat ρ a).length = off ∧ (flat ρ m).length = n := by
  obtain ⟨e1, e2, e3⟩ := mid_spec h
  exact ⟨by rw [e1, flat_append, flat_append], by rw [flat_length, e2], by rw [flat_length, e3]⟩

/-! ### What the program's types are, and what needs no memory -/
def szT (P : Program) (t : TypeId) : Option Nat := (P.info? t).map (·.size)
def agT (P : Program) (t : TypeId) : Option Bool := match P.underlying t with
  | some (.struct _) => some true
  | some (.array _ _) => some true
  | some _ => some false
  | none => none
def zeroT (P : Program) (t : TypeId) : Option Value := match P.info? t with
  | some i => i.zero
  | none => none

def prun {α : Type} (P : Program) : Sem α → Option α
  | .pure a => some a
  | .program k => prun P (k P)
  | _ => none

theorem prun_run {α : Type} {P : Program} : ∀ {s : Sem α} {a : α}, prun P s = some a → ∀ w, s.run P w = .ok a w
  | .pure a, b, h, w => by rw [prun] at h; rw [Option.some.inj h]; rfl
  | .program k, b, h, w => by rw [prun] at h; exact prun_run (s := k P) h w
  | .load .., _, h, _ | .store .., _, h, _ | .new .., _, h, _ | .shape .., _, h, _ | .freeze .., _, h, _ | .frozen .., _, h, _
  | .getObj .., _, h, _ | .setObj .., _, h, _ | .choose .., _, h, _ | .sys .., _, h, _ | .mark .., _, h, _ | .halt .., _, h, _ => by simp [prun] at h

theorem run_ok {α β : Type} {P : Program} {s : Sem α} {f : α → Sem β} {w w' : World} {a : α} (h : s.run P w = .ok a w') : (s >>= f).run P w = (f a).run P w' := by
  rw [Sem.run_bind, h]; rfl

theorem run_typeInfo {P : Program} {t : TypeId} {i : TypeInfo} (h : P.info? t = some i) (w : World) : (typeInfo t).run P w = .ok i w := by
  unfold typeInfo
  refine (run_ok (a := P) (w' := w) rfl).trans ?_
  rw [h]; rfl
theorem run_underlying {P : Program} {t : TypeId} {d : TypeDesc} (h : P.underlying t = some d) (w : World) : (underlying t).run P w = .ok d w := by
  unfold underlying
  refine (run_ok (a := P) (w' := w) rfl).trans ?_
  rw [h]; rfl
theorem run_sizeOf {P : Program} {t : TypeId} {n : Nat} (h : szT P t = some n) (w : World) : (sizeOf t).run P w = .ok n w := by
  unfold szT at h
  cases hi : P.info? t with
  | none => rw [hi] at h; cases h
  | some i =>
    rw [hi] at h
    unfold Go.sizeOf
    refine (run_ok (run_typeInfo hi w)).trans ?_
    rw [Option.map_some] at h
    rw [← Option.some.inj h]; rfl
theorem run_isAgg {P : Program} {t : TypeId} {b : Bool} (h : agT P t = some b) (w : World) : (isAgg t).run P w = .ok b w := by
  unfold agT at h
  cases hu : P.underlying t with
  | none => rw [hu] at h; cases h
  | some d =>
    rw [hu] at h
    unfold isAgg
    refine (run_ok (run_underlying hu w)).trans ?_
    cases d <;> simp only [Option.some.injEq] at h <;> subst h <;> rfl
theorem run_zeroValue {P : Program} {t : TypeId} {z : Value} (h : zeroT P t = some z) (w : World) : (zeroValue t).run P w = .ok z w := by
  unfold zeroT at h
  cases hi : P.info? t with
  | none => rw [hi] at h; cases h
  | some i =>
    rw [hi] at h
    unfold zeroValue
    refine (run_ok (run_typeInfo hi w)).trans ?_
    simp only at h
    rw [h]; rfl

/-! ### Cells read and written -/
theorem addr_add (g o n : Nat) : (⟨g, o, none⟩ : Addr).add n = ⟨g, o + n, none⟩ := by
  unfold Addr.add
  split
  · rename_i h; subst h; rfl
  · rfl
theorem addr_add2 (a : Addr) (h : a.spot = none) (n m : Nat) : (a.add n).add m = a.add (n + m) := by
  obtain ⟨g, o, s⟩ := a
  simp only at h
  subst h
  rw [addr_add, addr_add, addr_add, Nat.add_assoc]

theorem cell_of {w : World} {g : Nat} {cs : List Value} {t : TypeId} (h : w.heap[g]? = some (.cells cs.toArray t (0, 0))) (i : Nat) : w.cell? ⟨g, i, none⟩ = cs[i]? := by
  unfold World.cell?
  rw [h]
  simp

theorem run_loadCellsFrom {P : Program} {w : World} {g : Nat} {cs : List Value} {t : TypeId} (h : w.heap[g]? = some (.cells cs.toArray t (0, 0))) (off : Nat) :
    ∀ (n i : Nat) (acc : Array Value) (m : List Value), m.length = n → (∀ j, j < n → cs[off + i + j]? = m[j]?) →
      (loadCellsFrom ⟨g, off, none⟩ i n acc).run P w = .ok (acc ++ m.toArray) w
  | 0, i, acc, m, hl, _ => by
    have : m = [] := List.eq_nil_of_length_eq_zero hl
    subst this
    simp [loadCellsFrom, pure]
  | n + 1, i, acc, m, hl, hm => by
    match m, hl with
    | x :: m, hl =>
      unfold loadCellsFrom
      have h0 : w.cell? ((⟨g, off, none⟩ : Addr).add i) = some x := by
        rw [addr_add, cell_of h]
        have := hm 0 (by omega)
        simpa using this
      have e : (load ((⟨g, off, none⟩ : Addr).add i)).run P w = .ok x w := by
        unfold load
        simp only [Sem.run]
        rw [h0]
      refine (run_ok e).trans ?_
      have ih := run_loadCellsFrom (P := P) h off n (i + 1) (acc.push x) m (by simpa using hl) (fun j hj => by
        have := hm (j + 1) (by omega)
        rw [List.getElem?_cons_succ] at this
        rw [← this]
        congr 1
        omega)
      rw [ih]
      simp

theorem run_loadVar {P : Program} {w : World} {g off : Nat} {a m b : List Value} {t0 t : TypeId} {n : Nat} {ag : Bool} (h : w.heap[g]? = some (.cells (a ++ (m ++ b)).toArray t0 (0, 0))) (hoff : a.length = off) (hm : m.length = n)
    (hs : szT P t = some n) (ha : agT P t = some ag) (hone : ag = false → n = 1) :
    (Instr.loadAt t (.pointer (some ⟨g, off, none⟩))).run P w = .ok (if ag then .agg m.toArray else m.headD undef) w := by
  have hrd : ∀ j, j < n → (a ++ (m ++ b))[off + j]? = m[j]? := fun j hj => by
    rw [List.getElem?_append_right (by omega), show off + j - a.length = j by omega, List.getElem?_append_left (by omega)]
  show (Sem.bind (Instr.sureAddr _) _).run P w = _
  refine (run_ok (s := Instr.sureAddr (.pointer (some ⟨g, off, none⟩))) (a := ⟨g, off, none⟩) (w' := w) rfl).trans ?_
  unfold loadVar
  refine (run_ok (run_isAgg ha w)).trans ?_
  cases ag with
  | true =>
    rw [if_pos rfl, if_pos rfl]
    refine (run_ok (run_sizeOf hs w)).trans ?_
    have := run_loadCellsFrom (P := P) h off n 0 #[] m hm (fun j hj => by rw [Nat.add_zero]; exact hrd j hj)
    unfold loadCells
    refine (run_ok this).trans ?_
    simp [pure]
  | false =>
    rw [if_neg (by decide), if_neg (by decide)]
    have e1 := hone rfl
    subst e1
    match m, hm with
    | [x], _ =>
      unfold load
      simp only [Sem.run]
      have := hrd 0 (by omega)
      rw [Nat.add_zero] at this
      rw [cell_of h, this]
      rfl

/-- Nothing but block g has turned. -/
structure OnlyAt (g : Nat) (w w' : World) : Prop where
  os : w'.os = w.os
  tape : w'.tape = w.tape
  output : w'.output = w.output
  size : w'.heap.size = w.heap.size
  block : ∀ k, k ≠ g → w'.heap[k]? = w.heap[k]?
theorem OnlyAt.refl (g : Nat) (w : World) : OnlyAt g w w := ⟨rfl, rfl, rfl, rfl, fun _ _ => rfl⟩
theorem OnlyAt.trans {g : Nat} {a b c : World} (h : OnlyAt g a b) (k : OnlyAt g b c) : OnlyAt g a c :=
  ⟨k.os.trans h.os, k.tape.trans h.tape, k.output.trans h.output, k.size.trans h.size, fun i hi => (k.block i hi).trans (h.block i hi)⟩
theorem OnlyAt.setCell (w : World) (a : Addr) (v : Value) : OnlyAt a.block w (w.setCell a v) :=
  ⟨rfl, rfl, rfl, by simp, fun k hk => Below.heap_setCell _ _ _ _ hk⟩
theorem OnlyAt.below {g n : Nat} {w0 w w' : World} (h : OnlyAt g w w') (hb : Below n w0 w) (hg : n ≤ g) : Below n w0 w' :=
  hb.trans ⟨h.os, h.tape, h.output, Nat.le_of_eq h.size.symm, fun k hk => h.block k (by omega)⟩

theorem setCell_cells {w : World} {g off : Nat} {cs : List Value} {t : TypeId} (h : w.heap[g]? = some (.cells cs.toArray t (0, 0))) (v : Value) :
    (w.setCell ⟨g, off, none⟩ v).heap[g]? = some (.cells (cs.set off v).toArray t (0, 0)) := by
  simp only [World.setCell, Array.getElem?_modify, if_true, h, Option.map_some]
  simp

def cellOk : Value → Bool
  | .agg _ => false
  | .tuple _ => false
  | _ => true

theorem run_store1 {P : Program} {w : World} {g off : Nat} {cs : List Value} {t : TypeId} (h : w.heap[g]? = some (.cells cs.toArray t (0, 0))) (hlt : off < cs.length) {v : Value} (hv : cellOk v = true) :
    (store ⟨g, off, none⟩ v).run P w = .ok () (w.setCell ⟨g, off, none⟩ v) := by
  have hc : w.cell? ⟨g, off, none⟩ = some cs[off] := by rw [cell_of h]; exact List.getElem?_eq_getElem hlt
  have hf : w.frozen? ⟨g, off, none⟩ = false := by
    unfold World.frozen?
    rw [h]
    simp
  unfold store
  cases v <;> simp only [Sem.run, hc, hf] <;> first | rfl | cases hv

theorem run_storeCells {P : Program} {g : Nat} {t : TypeId} {b : List Value} :
    ∀ (vs m : List Value) (w : World) (off i : Nat) (a : List Value), w.heap[g]? = some (.cells (a ++ (m ++ b)).toArray t (0, 0)) → a.length = off + i → vs.length = m.length → (∀ v ∈ vs, cellOk v = true) →
      ∃ w', (storeCells ⟨g, off, none⟩ vs i).run P w = .ok () w' ∧ w'.heap[g]? = some (.cells (a ++ (vs ++ b)).toArray t (0, 0)) ∧ OnlyAt g w w'
  | [], m, w, off, i, a, h, ha, hl, hv => by
    have : m = [] := List.eq_nil_of_length_eq_zero (by simpa using hl.symm)
    subst this
    exact ⟨w, by unfold storeCells; rfl, h, OnlyAt.refl _ _⟩
  | v :: vs, x :: m, w, off, i, a, h, ha, hl, hv => by
    have hlt : off + i < (a ++ (x :: m ++ b)).length := by simp; omega
    have e1 := run_store1 (P := P) h hlt (hv v (by simp))
    have h1 := setCell_cells (off := off + i) h v
    have hset : (a ++ (x :: m ++ b)).set (off + i) v = (a ++ [v]) ++ (m ++ b) := by
      rw [List.set_append_right _ _ (by omega), show off + i - a.length = 0 by omega]
      simp
    rw [hset] at h1
    obtain ⟨w', e2, h2, ho⟩ := run_storeCells (P := P) vs m (w.setCell ⟨g, off + i, none⟩ v) off (i + 1) (a ++ [v]) h1 (by simp; omega) (by simpa using hl) (fun y hy => hv y (by simp [hy]))
    refine ⟨w', ?_, by simpa using h2, (OnlyAt.setCell w ⟨g, off + i, none⟩ v).trans ho⟩
    unfold storeCells
    rw [addr_add]
    exact (run_ok e1).trans e2

theorem run_storeAt {P : Program} {w : World} {g off : Nat} {a m b : List Value} {t0 t : TypeId} {n : Nat} {x : Value} (h : w.heap[g]? = some (.cells (a ++ (m ++ b)).toArray t0 (0, 0))) (hoff : a.length = off) (hm : m.length = n)
    (hs : szT P t = some n) (hx : x.cells.toList.length = n) (hv : ∀ v ∈ x.cells.toList, cellOk v = true) :
    ∃ w', (Instr.storeAt t (.pointer (some ⟨g, off, none⟩)) x).run P w = .ok () w' ∧ w'.heap[g]? = some (.cells (a ++ (x.cells.toList ++ b)).toArray t0 (0, 0)) ∧ OnlyAt g w w' := by
  obtain ⟨w', e, h', ho⟩ := run_storeCells (P := P) x.cells.toList m w off 0 a h (by omega) (by omega) hv
  refine ⟨w', ?_, h', ho⟩
  refine (run_ok (s := Instr.sureAddr (.pointer (some ⟨g, off, none⟩))) (a := ⟨g, off, none⟩) (w' := w) rfl).trans ?_
  unfold storeVar
  refine (run_ok (run_sizeOf hs w)).trans ?_
  have : ¬ (x.cells.size ≠ n) := by simpa using hx
  rw [if_neg this]
  exact e

theorem run_newRow {P : Program} {w : World} (t : TypeId) (cells : Array Value) : (newRow t cells).run P w = .ok ⟨w.heap.size, 0, none⟩ (w.alloc (.cells cells t)) := rfl

theorem run_box {P : Program} {w : World} (t : TypeId) (x : Value) : (Instr.box t x).run P w = .ok (.pointer (some ⟨w.heap.size, 0, none⟩)) (w.alloc (.cells x.cells t)) := rfl
theorem run_alloc {P : Program} {w : World} {t : TypeId} {z : Value} (hz : zeroT P t = some z) : (Instr.alloc t true (.tuple #[])).run P w = .ok (.pointer (some ⟨w.heap.size, 0, none⟩)) (w.alloc (.cells z.cells t)) := by
  unfold Instr.alloc
  exact (run_ok (run_zeroValue hz w)).trans rfl

/-! ### What Ref bears -/
def updH (H : Nat → Option Blk) (eff : List (Nat × Blk)) (k : Nat) : Option Blk := (eff.lookup k).or (H k)

theorem updH_nil (H : Nat → Option Blk) : updH H [] = H := rfl
theorem updH_one {H : Nat → Option Blk} {k0 k : Nat} {b b' : Blk} (h : updH H [(k0, b)] k = some b') : (k = k0 ∧ b' = b) ∨ (k ≠ k0 ∧ H k = some b') := by
  unfold updH at h
  by_cases e : k = k0
  · subst e; rw [List.lookup_cons, beq_self_eq_true] at h; exact .inl ⟨rfl, (Option.some.inj h).symm⟩
  · rw [List.lookup_cons, beq_false_of_ne e] at h; exact .inr ⟨e, h⟩

theorem Ref.below_le {w0 : Base} {ρ : Rho} {w : World} {H : Nat → Option Blk} (h : Ref w0 ρ w H) : w0.n ≤ w.heap.size := Nat.le_trans w0.le h.below.size
/-- Nothing of one's own has turned: another world that is as this one below what it holds. -/
theorem Ref.later {w0 : Base} {ρ : Rho} {w w' : World} {H : Nat → Option Blk} (h : Ref w0 ρ w H) (hb : Below w.heap.size w w') : Ref w0 ρ w' H := by
  refine ⟨h.below.trans (hb.mono h.below_le), fun k b hk => ?_, h.own, h.ext, h.inj, h.others.trans (keeps_below hb), h.free, fun g hg => (hb.block g (Nat.lt_of_lt_of_le (w0.lt g hg) h.below.size)).trans (h.keep g hg)⟩
  obtain ⟨rest, hr, hh⟩ := h.holds k b hk
  refine ⟨rest, hr, ?_⟩
  rw [hb.block]
  · exact hh
  · rcases Nat.lt_or_ge (ρ k).1 w.heap.size with hl | hl
    · exact hl
    · rw [Array.getElem?_eq_none hl] at hh; cases hh

theorem heap_alloc_self (w : World) (o : Obj) : (w.alloc o).heap[w.heap.size]? = some o := by
  show (w.heap.push o)[w.heap.size]? = _
  simp

theorem Ref.lt {w0 : Base} {ρ : Rho} {w : World} {H : Nat → Option Blk} (h : Ref w0 ρ w H) {k : Nat} {b : Blk} (hk : H k = some b) : (ρ k).1 < w.heap.size := by
  obtain ⟨rest, hr, hh⟩ := h.holds k b hk
  rcases Nat.lt_or_ge (ρ k).1 w.heap.size with hl | hl
  · exact hl
  · rw [Array.getElem?_eq_none hl] at hh; cases hh

def put1 (ρ : Rho) (k g c : Nat) : Rho := fun j => if j = k then (g, c) else ρ j
theorem put1_ne (ρ : Rho) {k g c j : Nat} (h : j ≠ k) : put1 ρ k g c j = ρ j := if_neg h
theorem put1_self (ρ : Rho) (k g c : Nat) : put1 ρ k g c k = (g, c) := if_pos rfl

/-- A new block of one's own. -/
theorem Ref.new {w0 : Base} {ρ : Rho} {w w' : World} {H : Nat → Option Blk} (h : Ref w0 ρ w H) {kn g c : Nat} {b : Blk} (hn : H kn = none) (hf : ∀ k b, H k = some b → kn ∉ idsA b.cs) (hown : b.own = true)
    (hb : Below w.heap.size w w') (hg : w.heap.size ≤ g) (hh : Holds (put1 ρ kn g c) w' kn b) : Ref w0 (put1 ρ kn g c) w' (updH H [(kn, b)]) := by
  have hk : ∀ k b', updH H [(kn, b)] k = some b' → _ := fun k b' hk => updH_one hk
  have hl := h.later hb
  refine ⟨hl.below, fun k b' hk' => ?_, fun k b' hk' ho => ?_, fun k b' hk' ho => ?_, fun k k' b1 b2 h1 h2 o1 o2 he => ?_, hl.others, fun k b' hk' ho hF => ?_, hl.keep⟩
  · rcases hk k b' hk' with ⟨rfl, rfl⟩ | ⟨e, hk'⟩
    · exact hh
    · obtain ⟨rest, hr, hx⟩ := hl.holds k b' hk'
      refine ⟨rest, hr, ?_⟩
      rw [put1_ne _ e, flat_congr (ρ := ρ) (ρ' := put1 ρ kn g c) fun j hj => put1_ne _ fun ej => hf k b' hk' (ej ▸ hj)]
      exact hx
  · rcases hk k b' hk' with ⟨rfl, rfl⟩ | ⟨e, hk'⟩
    · rw [put1_self]; exact Nat.le_trans h.below_le hg
    · rw [put1_ne _ e]; exact h.own k b' hk' ho
  · rcases hk k b' hk' with ⟨rfl, rfl⟩ | ⟨e, hk'⟩
    · rw [hown] at ho; cases ho
    · rw [put1_ne _ e]; exact h.ext k b' hk' ho
  · rcases hk k b1 h1 with ⟨ea, _⟩ | ⟨e, h1⟩ <;> rcases hk k' b2 h2 with ⟨eb, _⟩ | ⟨e', h2⟩
    · rw [ea, eb]
    · rw [ea, put1_self, put1_ne _ e'] at he
      have := h.lt h2
      simp only at he; omega
    · rw [eb, put1_self, put1_ne _ e] at he
      have := h.lt h1
      simp only at he; omega
    · rw [put1_ne _ e, put1_ne _ e'] at he
      exact h.inj k k' b1 b2 h1 h2 o1 o2 he
  · rcases hk k b' hk' with ⟨rfl, rfl⟩ | ⟨e, hk'⟩
    · rw [put1_self] at hF
      have h1 : g < w0.w.heap.size := w0.lt _ hF
      have h2 := h.below.size
      omega
    · rw [put1_ne _ e] at hF; exact h.free k b' hk' ho hF

/-- A block of one's own is written. -/
theorem OnlyAt.others {ρ : Rho} {w w' : World} {k : Nat} {b : Blk} (h : OnlyAt (ρ k).1 w w') (hh : Holds ρ w k b) : KeepsOthers w w' := by
  refine ⟨Nat.le_of_eq h.size.symm, fun j o hj ho => ?_⟩
  by_cases e : j = (ρ k).1
  · subst e
    obtain ⟨rest, _, hx⟩ := hh
    rw [hx] at hj
    cases hj
    simp [Obj.isCells] at ho
  · rw [h.block j e]; exact hj
theorem Ref.put {w0 : Base} {ρ : Rho} {w w' : World} {H : Nat → Option Blk} (h : Ref w0 ρ w H) {k0 : Nat} {b b1 : Blk} (hk0 : H k0 = some b) (hown : b.own = true) (hown1 : b1.own = true)
    (ho : OnlyAt (ρ k0).1 w w') (hh : Holds ρ w' k0 b1) : Ref w0 ρ w' (updH H [(k0, b1)]) := by
  have hk : ∀ k b', updH H [(k0, b1)] k = some b' → _ := fun k b' hk => updH_one hk
  refine ⟨ho.below h.below (h.own k0 b hk0 hown), fun k b' hk' => ?_, fun k b' hk' hb' => ?_, fun k b' hk' hb' => ?_, fun k k' b2 b3 h1 h2 o1 o2 he => ?_, h.others.trans (ho.others (h.holds k0 b hk0)), fun k b' hk' hb' hF => ?_, fun g hg => ?_⟩
  · rcases hk k b' hk' with ⟨rfl, rfl⟩ | ⟨e, hk'⟩
    · exact hh
    · obtain ⟨rest, hr, hx⟩ := h.holds k b' hk'
      refine ⟨rest, hr, ?_⟩
      rw [ho.block]
      · exact hx
      · intro ee
        cases hb : b'.own with
        | true => exact e (h.inj k k0 b' b hk' hk0 hb hown ee)
        | false =>
          have h1 := h.ext k b' hk' hb
          have h2 := h.own k0 b hk0 hown
          omega
  · rcases hk k b' hk' with ⟨rfl, rfl⟩ | ⟨e, hk'⟩
    · exact h.own k b hk0 hown
    · exact h.own k b' hk' hb'
  · rcases hk k b' hk' with ⟨rfl, rfl⟩ | ⟨e, hk'⟩
    · rw [hown1] at hb'; cases hb'
    · exact h.ext k b' hk' hb'
  · rcases hk k b2 h1 with ⟨ea, _⟩ | ⟨e, h1⟩ <;> rcases hk k' b3 h2 with ⟨eb, _⟩ | ⟨e', h2⟩
    · rw [ea, eb]
    · rw [ea] at he ⊢; exact h.inj _ _ _ _ hk0 h2 hown o2 he
    · rw [eb] at he ⊢; exact h.inj _ _ _ _ h1 hk0 o1 hown he
    · exact h.inj _ _ _ _ h1 h2 o1 o2 he
  · rcases hk k b' hk' with ⟨rfl, rfl⟩ | ⟨e, hk'⟩
    · exact h.free k b hk0 hown hF
    · exact h.free k b' hk' hb' hF
  · rw [ho.block g (fun e => h.free k0 b hk0 hown (e ▸ hg))]; exact h.keep g hg
end Go.Proofs.YtkiaodihfofbnaaGreatDoor.X
namespace Go.Proofs.YtkiaodihfofbnaaGreatDoor.X
open Go Go.RowKit

def idsL (xs : List AV) : List Nat := xs.flatMap AV.ids
abbrev View := Nat → Option Blk
/-- What an operation, or a function, does: its answer; which blocks turn (a new one has the number that is handed in); and what must hold for that. -/
structure Out where
  r : AV
  eff : List (Nat × Blk)
  ob : List Prop
abbrev Sp := FuncId → List AV → View → Nat → Option Out
def Met (l : List Prop) : Prop := ∀ p ∈ l, p
theorem Met.left {a b : List Prop} (h : Met (a ++ b)) : Met a := fun p hp => h p (List.mem_append_left _ hp)
theorem Met.right {a b : List Prop} (h : Met (a ++ b)) : Met b := fun p hp => h p (List.mem_append_right _ hp)
theorem Met.one {p : Prop} (h : Met [p]) : p := h p (List.mem_singleton.2 rfl)

/-- A call does: it runs here and now, or it is entered. -/
def Does (P : Program) (f : FuncId) (args : Array Value) (w : World) (K : Value → World → Prop) : Prop :=
  ((callFunc f args).run P w = .ok (.enter f args) w ∧ Calls P f args w fun e w' => ∃ v, e = .returned v ∧ K v w') ∨
  (∃ v w', (callFunc f args).run P w = .ok (.value v) w' ∧ K v w')

def argsV (ρ : Rho) (xs : List AV) : Array Value := (xs.map (AV.val ρ)).toArray

def SpOk (P : Program) (sp : Sp) : Prop :=
  ∀ f args V kn o, sp f args V kn = some o → Met o.ob → ∀ w0 ρ w H, Ref w0 ρ w H → (∀ k b, V k = some b → H k = some b) → H kn = none → (∀ k b, H k = some b → kn ∉ idsA b.cs) → kn ∉ idsL args →
    Does P f (argsV ρ args) w fun v w' => ∃ ρ', (∀ k, k ≠ kn → ρ' k = ρ k) ∧ v = o.r.val ρ' ∧ Ref w0 ρ' w' (updH H o.eff)

def allOk (l : List At) : Bool := l.all At.ok

def ofV : Value → AV
  | .agg cs => .g (.agg (cs.toList.map .v))
  | x => .g (.a (.v x))
def fnOf : AV → Option (FuncId × List AV × List AV)
  | .g (.a (.v (.func (.func fn) first captured))) => some (fn, first.toList.map ofV, captured.toList.map ofV)
  | .g (.a (.c fn first cap)) => some (fn, if first.isEmpty then [] else [.g (.agg (first.map .e))], cap.map fun k => .g (.a (.p k 0)))
  | _ => none

def fillA (place : Nat → Option (Nat × Nat)) : List At → List (Nat × AV) → Option (List At)
  | cs, [] => some cs
  | cs, (i, .g x) :: rest => match place i with
    | some (off, size) => if allOk x.atoms then (match mid cs off size with
      | some (a, _, b) => if width x.atoms == size then fillA place (a ++ (x.atoms ++ b)) rest else none
      | none => none) else none
    | none => none
  | _, _ => none

/-- The fields' places. -/
def placesT (P : Program) : List Field → Option (List (Nat × Nat))
  | [] => some []
  | f :: l => match szT P f.type, placesT P l with
    | some n, some r => some ((f.offset, n) :: r)
    | _, _ => none

def okCells (z : Value) : Bool := z.cells.toList.all cellOk

def elsOf : List At → Option (List El)
  | [] => some []
  | .e x :: l => (elsOf l).map (x :: ·)
  | _ => none
def valsOf : List At → Option (List Value)
  | [] => some []
  | .v x :: l => (valsOf l).map (x :: ·)
  | _ => none
def capsOf : List AV → Option (List Nat)
  | [] => some []
  | .g (.a (.p k 0)) :: l => (capsOf l).map (k :: ·)
  | _ => none

/-- A part of an aggregate, or of a block. -/
def partA (P : Program) (t : TypeId) (cs : List At) (off : Nat) : Option AV :=
  match szT P t, agT P t with
  | some n, some true => match mid cs off n with
    | some (_, m, _) => some (.g (.agg m))
    | none => none
  | some 1, some false => match mid (expand cs) off 1 with
    | some (_, [x], _) => (match x with | .e _ => none | .d _ => none | .r _ _ => none | .t _ => none | x => some (.g (.a x)))
    | _ => none
  | _, _ => none

def one (x : AV) : Option Out := some ⟨x, [], []⟩
def valO (v : Option Value) : Option Out := match v with
  | some v => some ⟨.g (.a (.v v)), [], []⟩
  | none => none
def zeroEl : El := ⟨0, 0, 0, 0, 0, 0, 0, 0, by decide⟩
def zeroPt : El × El × El := (zeroEl, zeroEl, zeroEl)

def opBuild (P : Program) (t : TypeId) (parts : List (Nat × AV)) : Option AV :=
  match zeroT P t, P.underlying t with
  | some z, some (.struct fields) => match placesT P fields.toList with
    | some pl => (fillA (fun i => pl[i]?) (vals z.cells.toList) parts).map fun cs => .g (.agg cs)
    | none => none
  | some z, some (.array _ elem) => match szT P elem with
    | some n => (fillA (fun i => some (i * n, n)) (vals z.cells.toList) parts).map fun cs => .g (.agg cs)
    | none => none
  | _, _ => none

def opBuildSlice (P : Program) (t : TypeId) (len : Nat) (parts : List (Nat × AV)) (kn : Nat) : Option Out :=
  match P.underlying t with
  | some (.slice elem) => match szT P elem, zeroT P elem with
    | some n, some z => if len * n ≤ 16777216 then
        (fillA (fun i => some (i * n, n)) (vals ((Array.range (len * n)).map (z.cells[· % z.cells.size]!)).toList) parts).bind fun cs => if (idsA cs).contains kn then none else some ⟨.g (.a (.s kn len (some len))), [(kn, ⟨cs, elem, false, true⟩)], []⟩
      else none
    | _, _ => none
  | _ => none

def opField (P : Program) (t : TypeId) (i : Nat) (l : List At) : Option AV :=
  match P.underlying t with
  | some (.struct fields) => match fields[i]? with
    | some f => partA P f.type l f.offset
    | none => none
  | _ => none

def opFieldAddr (P : Program) (t : TypeId) (i k off : Nat) : Option AV :=
  match P.underlying t with
  | some (.struct fields) => match fields[i]? with
    | some f => match szT P f.type with
      | some (_ + 1) => some (.g (.a (.p k (off + f.offset))))
      | _ => none
    | none => none
  | _ => none

/-- 'sy': the place is not known: that it is one there must hold. -/
def opIndexAddr (P : Program) (sy : Bool) (t : TypeId) (x : At) (i : Int) : Option Out :=
  match P.underlying t, x with
  | some (.array len elem), .p k off => match szT P elem with
    | some n => match sy with
      | true => some ⟨.g (.a (.p k (off + i.toNat * n))), [], [0 ≤ i ∧ i < (len : Int)]⟩
      | false => if 0 ≤ i ∧ i < len then some ⟨.g (.a (.p k (off + i.toNat * n))), [], []⟩ else none
    | none => none
  | some (.slice elem), .s k len _ => match szT P elem with
    | some n => match sy with
      | true => some ⟨.g (.a (.p k (i.toNat * n))), [], [0 ≤ i ∧ i < (len : Int)]⟩
      | false => if 0 ≤ i ∧ i < len then some ⟨.g (.a (.p k (i.toNat * n))), [], []⟩ else none
    | none => none
  | _, _ => none

def opIndex (P : Program) (t : TypeId) (l : List At) (i : Int) : Option AV :=
  match P.underlying t with
  | some (.array len elem) => match szT P elem with
    | some n => if 0 ≤ i ∧ i < len then partA P elem l (i.toNat * n) else none
    | none => none
  | _ => none

def opMakeFunc (fn : Fn) (nf : Nat) (xs : List AV) : Option AV :=
  match fn with
  | .func f => match nf with
    | 0 => match capsOf xs with
      | some ks => some (.g (.a (.c f [] ks)))
      | none => none
    | _ => match xs with
      | [.g (.agg l)] => match elsOf l with
        | some (e :: es) => some (.g (.a (.c f (e :: es) [])))
        | _ => match valsOf l with
          | some vs => some (.g (.a (.v (.func (.func f) #[.agg vs.toArray] #[]))))
          | none => none
      | _ => none
  | _ => none

def opLoad (P : Program) (t : TypeId) (k off : Nat) (V : View) : Option Out :=
  match V k with
  | some b => match b.cs with
    | [.r ik l] => match szT P t, agT P t with
      | some 1, some false => some ⟨.g (.a (.v (.int ik (l.getD off 0)))), [], [off < l.length]⟩
      | _, _ => none
    | [.t l] => match szT P t, agT P t with
      | some 24, some true => some ⟨.g (.agg [.e (l.getD (off / 24) zeroPt).1, .e (l.getD (off / 24) zeroPt).2.1, .e (l.getD (off / 24) zeroPt).2.2]), [], [off % 24 = 0 ∧ off / 24 < l.length]⟩
      | _, _ => none
    | cs => (partA P t cs off).bind one
  | none => none

def opStore (P : Program) (t : TypeId) (k off : Nat) (x : G) (V : View) : Option Out :=
  match V k with
  | some b => match b.own with
    | true => match b.cs, x with
      | [.r ik l], .a (.v (.int jk z)) => match szT P t with
        | some 1 => if ik = jk then some ⟨.tup [], [(k, { b with cs := [.r ik (l.set off z)] })], [off < l.length]⟩ else none
        | _ => none
      | _, _ => match szT P t with
        | some n => if allOk x.atoms then (match mid (if n == 1 then expand b.cs else b.cs) off n with
          | some (a, _, c) => if width x.atoms == n then some ⟨.tup [], [(k, { b with cs := a ++ (x.atoms ++ c) })], []⟩ else none
          | none => none) else none
        | none => none
    | false => none
  | none => none

def opSlice (P : Program) (t : TypeId) (k : Nat) : Option AV :=
  match P.underlying t with
  | some (.array n elem) => match szT P elem with
    | some _ => some (.g (.a (.s k n (some n))))
    | none => none
  | _ => none

def opLen (P : Program) (ats : Array TypeId) (len : Nat) : Option AV :=
  match ats[0]? with
  | some t => match P.underlying t with
    | some (.slice _) => some (.g (.a (.v (.int .i64 (len : Int)))))
    | _ => none
  | none => none

def absOp (P : Program) (sp : Sp) (sy : Bool) (op : Op) (ty : TypeId) (xs : List AV) (V : View) (kn : Nat) : Option Out :=
  match op, xs with
  | .move _, [x] => one x
  | .assign _, [x] => one x
  | .pick _ _ _, [.g (.a (.v (.bool b))), x, y] => one (if b then x else y)
  | .alloc t, [] => match zeroT P t with
    | some z => if okCells z then some ⟨.g (.a (.p kn 0)), [(kn, ⟨vals z.cells.toList, t, false, true⟩)], []⟩ else none
    | none => none
  | .box t _, [.g x] => if allOk x.atoms then some ⟨.g (.a (.p kn 0)), [(kn, ⟨x.atoms, t, false, true⟩)], []⟩ else none
  | .build t ps, xs => (opBuild P t ((ps.toList.map (·.1)).zip xs)).bind one
  | .buildSlice t len ps, xs => opBuildSlice P t len ((ps.toList.map (·.1)).zip xs) kn
  | .load t _, [.g (.a (.p k off))] => opLoad P t k off V
  | .store t _ _, [.g (.a (.p k off)), .g x] => opStore P t k off x V
  | .nilCheck _, [.g (.a (.p k off))] => one (.g (.a (.p k off)))
  | .binOp op t x y _, [.g (.a (.v a)), .g (.a (.v b))] => valO (prun P (do eqGuard op t x y a b; binOp op t a b))
  | .unOp op _ _, [.g (.a (.v a))] => valO (prun P (Op.unary op a))
  | .convert s d _, [.g (.a (.v a))] => valO (prun P (convert s d a))
  | .makeFunc fn first _, xs => (opMakeFunc fn first.size xs).bind one
  | .slice t _ none none none, [.g (.a (.p k 0))] => (opSlice P t k).bind one
  | .fieldAddr t _ i, [.g (.a (.p k off))] => (opFieldAddr P t i k off).bind one
  | .field t _ i, [.g (.agg l)] => (opField P t i l).bind one
  | .indexAddr t _ _, [.g (.a x), .g (.a (.v (.int _ i)))] => opIndexAddr P sy t x i
  | .index t _ _, [.g (.agg l), .g (.a (.v (.int _ i)))] => (opIndex P t l i).bind one
  | .index t _ _, [.g (.a (.v x)), .g (.a (.v i))] => valO (prun P (Instr.index t x i))
  | .extract _ i, [.tup l] => match l[i]? with
    | some x => one (.g x)
    | none => none
  | .call { callee := .builtin .len, args := _, argTypes := ats }, [.g (.a (.s _ len _))] => (opLen P ats len).bind one
  | .call { callee := .builtin .len, args := _, argTypes := ats }, [.g (.a (.v x))] => valO (prun P (Builtin.len_ ats ty #[x]))
  | .call { callee := .value _, args := _, argTypes := _ }, f :: args => match fnOf f with
    | some (fn, first, caps) => sp fn (first ++ args ++ caps) V kn
    | none => none
  | _, _ => none

/-! ### Small facts of cells -/
theorem cellOk_flat {ρ : Rho} {l : List At} (h : allOk l = true) : ∀ v ∈ flat ρ l, cellOk v = true := by
  intro v hv
  unfold flat at hv
  obtain ⟨x, hx, hv⟩ := List.mem_flatMap.1 hv
  have ho : x.ok = true := List.all_eq_true.1 h x hx
  cases x with
  | v y =>
    simp only [At.cells, At.val, List.mem_singleton] at hv
    rw [hv]
    cases y <;> first | rfl | cases ho
  | e y =>
    simp only [At.cells, El.cells, List.mem_cons, List.not_mem_nil, or_false] at hv
    rcases hv with h | h | h | h | h | h | h | h <;> subst h <;> rfl
  | d n =>
    simp only [At.cells, dcells, List.mem_cons, List.not_mem_nil, or_false] at hv
    rcases hv with h | h <;> subst h <;> rfl
  | r k l =>
    simp only [At.cells, List.mem_map] at hv
    obtain ⟨z, _, rfl⟩ := hv
    rfl
  | t l =>
    simp only [At.cells, List.mem_flatMap] at hv
    obtain ⟨p, _, hv⟩ := hv
    simp only [pcells, El.cells, List.cons_append, List.nil_append, List.mem_cons, List.not_mem_nil, or_false] at hv
    rcases hv with h | h | h | h | h | h | h | h | h | h | h | h | h | h | h | h | h | h | h | h | h | h | h | h <;> subst h <;> rfl
  | p k off => simp only [At.cells, At.val, List.mem_singleton] at hv; subst hv; rfl
  | s k len cap => simp only [At.cells, At.val, List.mem_singleton] at hv; subst hv; rfl
  | c fn first cap => simp only [At.cells, At.val, List.mem_singleton] at hv; subst hv; rfl

theorem G.val_cells {ρ : Rho} {x : G} (h : allOk x.atoms = true) : (x.val ρ).cells.toList = flat ρ x.atoms := by
  cases x with
  | agg l => simp [G.val, Value.cells, G.atoms]
  | a x =>
    have ho : x.ok = true := List.all_eq_true.1 h x (by simp [G.atoms])
    cases x with
    | v y => cases y <;> first | rfl | cases ho
    | e y => simp [G.val, At.val, Value.cells, G.atoms, flat, At.cells]
    | d n => simp [G.val, At.val, Value.cells, G.atoms, flat, At.cells]
    | r k l => simp [G.val, At.val, Value.cells, G.atoms, flat, At.cells]
    | t l => simp [G.val, At.val, Value.cells, G.atoms, flat, At.cells]
    | p k off => rfl
    | s k len cap => rfl
    | c fn first cap => rfl

theorem ofV_val (ρ : Rho) (x : Value) : (ofV x).val ρ = x := by
  cases x with
  | agg cs =>
    have := flat_vals ρ cs.toList
    unfold vals at this
    simp only [ofV, AV.val, G.val, this]
  | _ => rfl

/-! ### Filling an aggregate -/
theorem foldl_put (off : Nat) : ∀ (vs : List Value) (j : Nat) (a m b : List Value), a.length = off + j → m.length = vs.length →
    (vs.zipIdx j).foldl (fun (cs : Array Value) (x : Value × Nat) => cs.setIfInBounds (off + x.2) x.1) (a ++ (m ++ b)).toArray = (a ++ (vs ++ b)).toArray
  | [], j, a, m, b, _, hm => by
    have : m = [] := List.eq_nil_of_length_eq_zero (by simpa using hm)
    subst this
    rfl
  | v :: vs, j, a, x :: m, b, ha, hm => by
    rw [List.zipIdx_cons, List.foldl_cons]
    have e : ((a ++ (x :: m ++ b)).toArray).setIfInBounds (off + j) v = ((a ++ [v]) ++ (m ++ b)).toArray := by
      rw [List.setIfInBounds_toArray, List.set_append_right _ _ (by omega), show off + j - a.length = 0 by omega]
      simp
    simp only []
    rw [e, foldl_put off vs (j + 1) (a ++ [v]) m b (by simp; omega) (by simpa using hm)]
    simp

theorem fill_sound {ρ : Rho} {place : Nat → Option (Nat × Nat)} : ∀ (l : List (Nat × AV)) (cs cs' : List At), fillA place cs l = some cs' →
    Instr.fill place (flat ρ cs).toArray (l.map fun x => (x.1, x.2.val ρ)) = some (flat ρ cs').toArray
  | [], cs, cs', h => by
    rw [fillA] at h
    rw [Option.some.inj h]; rfl
  | (i, .tup l) :: rest, cs, cs', h => by simp [fillA] at h
  | (i, .g x) :: rest, cs, cs', h => by
    rw [fillA] at h
    cases hp : place i with
    | none => rw [hp] at h; cases h
    | some os =>
      obtain ⟨off, size⟩ := os
      rw [hp] at h
      simp only at h
      split at h
      · rename_i hok
        split at h
        · rename_i a m b hmid
          split at h
          · rename_i hw
            obtain ⟨e1, e2, e3⟩ := mid_flat ρ hmid
            have hw' : width x.atoms = size := by simpa using hw
            have hc : (x.val ρ).cells.toList = flat ρ x.atoms := G.val_cells hok
            have hs : (x.val ρ).cells.size = size := by
              have := congrArg List.length hc
              rw [flat_length, hw'] at this
              simpa using this
            simp only [List.map_cons, Instr.fill, hp, AV.val]
            rw [if_neg (by
              rw [hs]
              simp only [ne_eq, not_true_eq_false, decide_false, Bool.false_or, decide_eq_true_eq, Nat.not_lt]
              rw [e1]
              simp only [List.size_toArray, List.length_append]
              omega)]
            have e4 := foldl_put off (flat ρ x.atoms) 0 (flat ρ a) (flat ρ m) (flat ρ b) (by omega) (by rw [e3, flat_length, hw'])
            have e5 : (x.val ρ).cells.zipIdx.foldl (fun (cs : Array Value) (x : Value × Nat) => cs.setIfInBounds (off + x.2) x.1) (flat ρ cs).toArray = (flat ρ (a ++ (x.atoms ++ b))).toArray := by
              rw [e1, flat_append, flat_append, ← e4, ← hc, ← Array.foldl_toList, Array.toList_zipIdx]
            refine Eq.trans ?_ (fill_sound rest _ _ h)
            exact congrArg (fun z => Instr.fill place z _) e5
          · cases h
        · cases h
      · cases h

/-! ### Parts, loads, stores -/
/-- A cell by itself. -/
def At.single : At → Bool
  | .e _ => false
  | .d _ => false
  | .r _ _ => false
  | .t _ => false
  | _ => true
theorem headD_flat1 (ρ : Rho) (x : At) (h : x.single = true) : (flat ρ [x]).headD undef = x.val ρ := by
  cases x <;> first | rfl | cases h

theorem partA_cases {P : Program} {t : TypeId} {cs : List At} {off : Nat} {r : AV} (h : partA P t cs off = some r) :
    (∃ n a m b, szT P t = some n ∧ agT P t = some true ∧ mid cs off n = some (a, m, b) ∧ r = .g (.agg m)) ∨
    (∃ a x b, szT P t = some 1 ∧ agT P t = some false ∧ mid (expand cs) off 1 = some (a, [x], b) ∧ r = .g (.a x) ∧ x.single = true) := by
  unfold partA at h
  split at h
  · rename_i n h1 h2
    split at h
    · rename_i a m b hm
      exact .inl ⟨n, a, m, b, h1, h2, hm, (Option.some.inj h).symm⟩
    · cases h
  · rename_i h1 h2
    split at h
    · rename_i a x b hm
      split at h
      · cases h
      · cases h
      · cases h
      · cases h
      · rename_i hx hy hz hu
        refine .inr ⟨a, x, b, h1, h2, hm, (Option.some.inj h).symm, ?_⟩
        cases x with
        | e y => exact absurd rfl (hx y)
        | d n => exact absurd rfl (hy n)
        | r k l => exact absurd rfl (hz k l)
        | t l => exact absurd rfl (hu l)
        | _ => rfl
    · cases h
  · cases h

theorem bindOne {x : Option AV} {o : Out} (hb : x.bind one = some o) : x = some o.r ∧ o.eff = [] ∧ o.ob = [] := by
  cases x with
  | none => cases hb
  | some y =>
    obtain rfl := Option.some.inj (show some (⟨y, [], []⟩ : Out) = some o from hb)
    exact ⟨rfl, rfl, rfl⟩

theorem flatMap_pcells_get : ∀ (l : List (El × El × El)) (i : Nat), i < l.length → ∃ a b, l.flatMap pcells = a ++ (pcells (l.getD i zeroPt) ++ b) ∧ a.length = 24 * i
  | p :: l, 0, _ => ⟨[], l.flatMap pcells, rfl, rfl⟩
  | p :: l, i + 1, h => by
    obtain ⟨a, b, e1, e2⟩ := flatMap_pcells_get l i (by simpa using h)
    refine ⟨pcells p ++ a, b, ?_, ?_⟩
    · rw [List.flatMap_cons, e1, List.getD_cons_succ, List.append_assoc]
    · have h : (pcells p).length = 24 := rfl
      rw [List.length_append, e2, h]; omega

theorem row_split (k : IntKind) (l : List Int) (off : Nat) (h : off < l.length) : l.map (Value.int k) = (l.take off).map (Value.int k) ++ ([Value.int k l[off]] ++ (l.drop (off + 1)).map (Value.int k)) := by
  conv => lhs; rw [← List.take_append_drop off l, ← List.getElem_cons_drop h]
  rw [List.map_append, List.map_cons]; rfl

theorem load_sound {P : Program} {t : TypeId} {k off : Nat} {V : View} {o : Out} (h : opLoad P t k off V = some o) (hob : Met o.ob) {w0 : Base} {w : World} {ρ : Rho} {H : Nat → Option Blk} (hV : ∀ b, V k = some b → H k = some b) (hR : Ref w0 ρ w H) :
    (Instr.loadAt t (.pointer (some ⟨(ρ k).1, off, none⟩))).run P w = .ok (o.r.val ρ) w ∧ o.eff = [] := by
  unfold opLoad at h
  cases hb' : V k with
  | none => rw [hb'] at h; cases h
  | some b =>
    rw [hb'] at h
    have hb := hV b hb'
    obtain ⟨rest, _, hh⟩ := hR.holds k b hb
    simp only at h
    split at h
    · -- a row of numbers
      rename_i ik l hcs
      split at h
      · rename_i h1 h2
        obtain rfl := Option.some.inj h
        have hlt : off < l.length := hob.one
        refine ⟨?_, rfl⟩
        rw [hcs] at hh
        have e : flat ρ [.r ik l] ++ rest = (l.take off).map (Value.int ik) ++ ([Value.int ik (l.getD off 0)] ++ ((l.drop (off + 1)).map (Value.int ik) ++ rest)) := by
          have e1 : flat ρ [.r ik l] = l.map (Value.int ik) := by simp [flat, At.cells]
          rw [e1, row_split ik l off hlt, List.append_assoc, List.append_assoc, List.getD_eq_getElem?_getD, List.getElem?_eq_getElem hlt]
          rfl
        rw [e] at hh
        rw [run_loadVar hh (by simp; omega) rfl h1 h2 (fun _ => rfl), if_neg (by decide)]
        rfl
      · cases h
    · -- a row of points
      rename_i l hcs
      split at h
      · rename_i h1 h2
        obtain rfl := Option.some.inj h
        obtain ⟨h0, hlt⟩ := hob.one
        refine ⟨?_, rfl⟩
        rw [hcs] at hh
        obtain ⟨a, c, e1, e2⟩ := flatMap_pcells_get l (off / 24) hlt
        have e : flat ρ [.t l] ++ rest = a ++ (pcells (l.getD (off / 24) zeroPt) ++ (c ++ rest)) := by
          have e1' : flat ρ [.t l] = l.flatMap pcells := by simp [flat, At.cells]
          rw [e1', e1, List.append_assoc, List.append_assoc]
        rw [e] at hh
        rw [run_loadVar hh (by rw [e2]; omega) rfl h1 h2 (fun h => by cases h), if_pos rfl]
        rfl
      · cases h
    · obtain ⟨h, h3, _⟩ := bindOne h
      refine ⟨?_, h3⟩
      rcases partA_cases h with ⟨n, a, m, c, h1, h2, hm, he⟩ | ⟨a, x, c, h1, h2, hm, he, hx⟩
      · obtain ⟨e1, e2, e3⟩ := mid_flat ρ hm
        rw [e1, List.append_assoc, List.append_assoc] at hh
        rw [run_loadVar hh e2 e3 h1 h2 (fun h => by cases h), he]
        rfl
      · obtain ⟨e1, e2, e3⟩ := mid_flat ρ hm
        rw [← flat_expand, e1, List.append_assoc, List.append_assoc] at hh
        rw [run_loadVar hh e2 e3 h1 h2 (fun _ => rfl), if_neg (by decide), headD_flat1 ρ x hx, he]
        rfl

theorem part_sound {P : Program} {t : TypeId} {cs : List At} {off : Nat} {r : AV} (h : partA P t cs off = some r) (ρ : Rho) (w : World) : (part t (flat ρ cs).toArray off).run P w = .ok (r.val ρ) w := by
  unfold part
  rcases partA_cases h with ⟨n, a, m, c, h1, h2, hm, rfl⟩ | ⟨a, x, c, h1, h2, hm, rfl, hx⟩
  · obtain ⟨e1, e2, e3⟩ := mid_flat ρ hm
    refine (run_ok (run_isAgg h2 w)).trans ?_
    rw [if_pos rfl]
    refine (run_ok (run_sizeOf h1 w)).trans ?_
    have : (flat ρ cs).toArray.extract off (off + n) = (flat ρ m).toArray := by
      rw [e1, List.extract_toArray]
      congr 1
      rw [List.extract_eq_take_drop, show off + n - off = n by omega, ← e2, List.drop_left, ← e3, List.take_left]
    rw [this]; rfl
  · obtain ⟨e1, e2, e3⟩ := mid_flat ρ hm
    refine (run_ok (run_isAgg h2 w)).trans ?_
    rw [if_neg (by decide)]
    have : (flat ρ cs).toArray[off]? = some (x.val ρ) := by
      rw [List.getElem?_toArray, ← flat_expand, e1, List.getElem?_append_right (by omega), e2, Nat.sub_self]
      cases x <;> first | rfl | cases hx
    rw [this]; rfl

theorem store_sound {P : Program} {t : TypeId} {k off : Nat} {x : G} {V : View} {o : Out} (h : opStore P t k off x V = some o) (hob : Met o.ob) {w0 : Base} {w : World} {ρ : Rho} {H : Nat → Option Blk} (hV : ∀ b, V k = some b → H k = some b) (hR : Ref w0 ρ w H) :
    ∃ w', (Instr.storeAt t (.pointer (some ⟨(ρ k).1, off, none⟩)) (x.val ρ)).run P w = .ok () w' ∧ o.r = .tup [] ∧ Ref w0 ρ w' (updH H o.eff) := by
  unfold opStore at h
  cases hb' : V k with
  | none => rw [hb'] at h; cases h
  | some b =>
    rw [hb'] at h
    have hb := hV b hb'
    obtain ⟨rest, hr, hh⟩ := hR.holds k b hb
    simp only at h
    split at h
    · rename_i hown
      split at h
      · rename_i ik l jk z hcs
        split at h
        · rename_i hs
          split at h
          · rename_i hk
            subst hk
            obtain rfl := Option.some.inj h
            have hlt : off < l.length := hob.one
            have e1 : ∀ l : List Int, flat ρ [.r ik l] = l.map (Value.int ik) := fun l => by simp [flat, At.cells]
            have e2 : ∀ y, l.set off y = l.take off ++ (y :: l.drop (off + 1)) := fun y => by
              rw [List.set_eq_take_append_cons_drop, if_pos hlt]
            have e : flat ρ [.r ik l] ++ rest = (l.take off).map (Value.int ik) ++ ([Value.int ik l[off]] ++ ((l.drop (off + 1)).map (Value.int ik) ++ rest)) := by
              rw [e1, row_split ik l off hlt, List.append_assoc, List.append_assoc]
            rw [hcs, e] at hh
            obtain ⟨w', e4, h4, ho⟩ := run_storeAt (P := P) (off := off) (x := .int ik z) hh (by rw [List.length_map, List.length_take]; omega) rfl hs rfl (fun v hv => by
              have : v = .int ik z := by simpa [Value.cells] using hv
              rw [this]; rfl)
            refine ⟨w', e4, rfl, hR.put hb hown hown ho ⟨rest, hr, ?_⟩⟩
            rw [h4]
            simp only
            rw [e1, e2]
            simp [Value.cells]
          · cases h
        · cases h
      · split at h
        · rename_i n hs
          split at h
          · rename_i hok
            split at h
            · rename_i a m c hm
              split at h
              · rename_i hw
                obtain rfl := Option.some.inj h
                obtain ⟨e1, e2, e3⟩ := mid_flat ρ hm
                have e0 : flat ρ (if n == 1 then expand b.cs else b.cs) = flat ρ b.cs := by
                  split
                  · exact flat_expand ρ b.cs
                  · rfl
                rw [e0] at e1
                have hc := G.val_cells (ρ := ρ) hok
                have hw' := beq_iff_eq.1 hw
                rw [e1, List.append_assoc, List.append_assoc] at hh
                obtain ⟨w', e4, h4, ho⟩ := run_storeAt (P := P) hh e2 e3 hs (by rw [hc, flat_length, hw']) (by rw [hc]; exact cellOk_flat hok)
                refine ⟨w', e4, rfl, hR.put hb hown hown ho ⟨rest, hr, ?_⟩⟩
                rw [h4, hc, flat_append, flat_append]
                simp
              · cases h
            · cases h
          · cases h
        · cases h
    · cases h

theorem new_sound {w0 : Base} {w : World} {ρ : Rho} {H : Nat → Option Blk} (hR : Ref w0 ρ w H) {kn : Nat} (hn : H kn = none) (hf : ∀ k b, H k = some b → kn ∉ idsA b.cs) {cs : List At} (hx : kn ∉ idsA cs) (t : TypeId) (c : Nat) :
    Ref w0 (put1 ρ kn w.heap.size c) (w.alloc (.cells (flat ρ cs).toArray t)) (updH H [(kn, ⟨cs, t, false, true⟩)]) := by
  refine hR.new hn hf rfl ((Below.refl _ _).alloc (Nat.le_refl _) _) (Nat.le_refl _) ⟨[], fun _ => rfl, ?_⟩
  have e : flat (put1 ρ kn w.heap.size c) cs = flat ρ cs := flat_congr fun j hj => put1_ne _ fun e => hx (e ▸ hj)
  show (w.alloc _).heap[(put1 ρ kn w.heap.size c kn).1]? = some (.cells (flat (put1 ρ kn w.heap.size c) cs ++ []).toArray t (0, 0))
  rw [put1_self, heap_alloc_self, List.append_nil, e]

/-! ### An operation that gives a value -/
theorem wp_value {P : Program} {o : Oper} {a : Act} {w w' : World} {next : Act → World → Prop} {Q : Exit → Act → World → Prop} {v : Value} (h : (execOp a.eval o).run P w = .ok (.value v) w') (hk : next (a.put o.dst v) w') : o.wp P a w next Q := by
  unfold Oper.wp
  rw [h]; exact hk
theorem wp_unit {P : Program} {o : Oper} {a : Act} {w w' : World} {next : Act → World → Prop} {Q : Exit → Act → World → Prop} (h : (execOp a.eval o).run P w = .ok .skip w') (hk : next (a.put o.dst undef) w') : o.wp P a w next Q := by
  unfold Oper.wp
  rw [h]; exact hk

theorem placesT_sound {P : Program} : ∀ {l : List Field} {pl : List (Nat × Nat)}, placesT P l = some pl → ∀ w, (l.mapM fun f => do pure (f.offset, ← sizeOf f.type) : Sem (List (Nat × Nat))).run P w = .ok pl w
  | [], pl, h, w => by rw [placesT] at h; rw [← Option.some.inj h]; rfl
  | f :: l, pl, h, w => by
    rw [placesT] at h
    split at h
    · rename_i n r h1 h2
      rw [List.mapM_cons]
      refine (run_ok (a := (f.offset, n)) (w' := w) ((run_ok (run_sizeOf h1 w)).trans rfl)).trans ?_
      refine (run_ok (placesT_sound h2 w)).trans ?_
      rw [← Option.some.inj h]; rfl
    · cases h

theorem build_sound {P : Program} {t : TypeId} {parts : List (Nat × AV)} {r : AV} (h : opBuild P t parts = some r) (ρ : Rho) (w : World) :
    (Instr.build t (parts.map fun x => (x.1, x.2.val ρ)).toArray).run P w = .ok (r.val ρ) w := by
  unfold opBuild at h
  unfold Instr.build
  split at h
  · rename_i z fields hz hu
    split at h
    · rename_i pl hpl
      refine (run_ok (run_zeroValue hz w)).trans ?_
      refine (run_ok (run_underlying hu w)).trans ?_
      simp only
      have e := placesT_sound hpl w
      have e' : (fields.mapM fun f => do pure (f.offset, ← sizeOf f.type) : Sem (Array (Nat × Nat))).run P w = .ok pl.toArray w := by
        rw [← Array.toArray_toList (xs := fields), List.mapM_toArray]
        refine (Sem.run_map P w _ _).trans ?_
        rw [e]; rfl
      refine (run_ok e').trans ?_
      cases hf : fillA (fun i => pl[i]?) (vals z.cells.toList) parts with
      | none => rw [hf] at h; cases h
      | some cs =>
        rw [hf] at h
        have := fill_sound (ρ := ρ) parts _ _ hf
        rw [flat_vals] at this
        simp only [Array.toArray_toList] at this
        have e2 : (fun i : Nat => pl.toArray[i]?) = fun i => pl[i]? := by funext i; simp
        rw [e2, this]
        rw [Option.map_some] at h
        rw [← Option.some.inj h]; rfl
    · cases h
  · rename_i z n elem hz hu
    split at h
    · rename_i sz hs
      refine (run_ok (run_zeroValue hz w)).trans ?_
      refine (run_ok (run_underlying hu w)).trans ?_
      simp only
      refine (run_ok (run_sizeOf hs w)).trans ?_
      cases hf : fillA (fun i => some (i * sz, sz)) (vals z.cells.toList) parts with
      | none => rw [hf] at h; cases h
      | some cs =>
        rw [hf] at h
        have := fill_sound (ρ := ρ) parts _ _ hf
        rw [flat_vals] at this
        simp only [Array.toArray_toList] at this
        rw [this]
        rw [Option.map_some] at h
        rw [← Option.some.inj h]; rfl
    · cases h
  · cases h

theorem buildSlice_sound {P : Program} {t : TypeId} {len kn : Nat} {parts : List (Nat × AV)} {o : Out} (h : opBuildSlice P t len parts kn = some o) (ρ : Rho) (w : World) :
    ∃ cs elem, kn ∉ idsA cs ∧ o = ⟨.g (.a (.s kn len (some len))), [(kn, ⟨cs, elem, false, true⟩)], []⟩ ∧
      (Instr.buildSlice t len (parts.map fun x => (x.1, x.2.val ρ)).toArray).run P w = .ok (.slice (some ⟨w.heap.size, 0, none⟩) len len) (w.alloc (.cells (flat ρ cs).toArray elem)) := by
  unfold opBuildSlice at h
  split at h
  · rename_i elem hu
    split at h
    · rename_i n z hs hz
      split at h
      · rename_i hc
        cases hf : fillA (fun i => some (i * n, n)) (vals ((Array.range (len * n)).map (z.cells[· % z.cells.size]!)).toList) parts with
        | none => rw [hf] at h; cases h
        | some cs =>
          rw [hf, Option.bind_some] at h
          split at h
          · cases h
          rename_i hc
          obtain rfl := Option.some.inj h
          refine ⟨cs, elem, fun hm => hc (by simpa using hm), rfl, ?_⟩
          have := fill_sound (ρ := ρ) parts _ _ hf
          rw [flat_vals] at this
          simp only [Array.toArray_toList] at this
          unfold Instr.buildSlice
          refine (run_ok (run_underlying hu w)).trans ?_
          simp only
          refine (run_ok (run_sizeOf hs w)).trans ?_
          rw [if_neg (by omega)]
          by_cases h0 : len * n = 0
          · rw [if_pos h0]
            have e : ∀ g : Nat → Value, (Array.range (len * n)).map g = #[] := fun g => by rw [h0]; simp
            simp only [e] at this ⊢
            simp only [Sem.run_bind, Result.andThen_ok, Sem.run_pure]
            rw [this]
            rfl
          · rw [if_neg h0]
            simp only [Sem.run_bind, run_zeroValue hz, Result.andThen_ok, Sem.run_pure]
            rw [this]
            rfl
      · cases h
    · cases h
  · cases h

theorem fieldAddr_sound {P : Program} {t : TypeId} {i k off : Nat} {r : AV} (h : opFieldAddr P t i k off = some r) (ρ : Rho) (w : World) :
    (Instr.fieldAt t (.pointer (some ⟨(ρ k).1, off, none⟩)) i).run P w = .ok (r.val ρ) w := by
  unfold opFieldAddr at h
  unfold Instr.fieldAt
  split at h
  · rename_i fields hu
    refine (run_ok (run_underlying hu w)).trans ?_
    simp only
    split at h
    · rename_i f hf
      rw [hf]
      simp only
      refine (run_ok (s := Instr.sureAddr (.pointer (some ⟨(ρ k).1, off, none⟩))) (a := ⟨(ρ k).1, off, none⟩) (w' := w) rfl).trans ?_
      split at h
      · rename_i n hs
        rw [← Option.some.inj h]
        refine (run_ok (a := ⟨(ρ k).1, off + f.offset, none⟩) (w' := w) ?_).trans rfl
        unfold fieldPlace
        refine (run_ok (run_sizeOf hs w)).trans ?_
        rw [if_neg (by omega), addr_add]
        rfl
      · cases h
    · cases h
  · cases h

theorem indexAddr_sound {P : Program} {sy : Bool} {t : TypeId} {x : At} {ik : IntKind} {i : Int} {o : Out} (h : opIndexAddr P sy t x i = some o) (hob : Met o.ob) (ρ : Rho) (w : World) :
    (Instr.indexAt t (x.val ρ) (.int ik i)).run P w = .ok (o.r.val ρ) w ∧ o.eff = [] := by
  unfold opIndexAddr at h
  unfold Instr.indexAt
  split at h
  · rename_i len elem k off hu
    split at h
    · rename_i n hs
      have fin : ∀ r, 0 ≤ i ∧ i < (len : Int) → r = .g (.a (.p k (off + i.toNat * n))) → (Instr.indexAt t ((At.p k off).val ρ) (.int ik i)).run P w = .ok (AV.val ρ r) w := fun r hb hr => by
        unfold Instr.indexAt
        refine (run_ok (s := asIntOf (.int ik i)) (a := (ik, i)) (w' := w) rfl).trans ?_
        simp only
        refine (run_ok (run_underlying hu w)).trans ?_
        simp only
        refine (run_ok (a := (some (⟨(ρ k).1, off, none⟩ : Addr), len, elem)) (w' := w) rfl).trans ?_
        simp only
        refine (run_ok (run_underlying hu w)).trans ?_
        rw [if_pos hb]
        refine (run_ok (run_sizeOf hs w)).trans ?_
        rw [hr, addr_add]
        rfl
      split at h
      · obtain rfl := Option.some.inj h
        exact ⟨fin _ hob.one rfl, rfl⟩
      · split at h
        · rename_i hb
          obtain rfl := Option.some.inj h
          exact ⟨fin _ hb rfl, rfl⟩
        · cases h
    · cases h
  · rename_i elem k len cap hu
    split at h
    · rename_i n hs
      have fin : ∀ r, 0 ≤ i ∧ i < (len : Int) → r = .g (.a (.p k (i.toNat * n))) → (Instr.indexAt t ((At.s k len cap).val ρ) (.int ik i)).run P w = .ok (AV.val ρ r) w := fun r hb hr => by
        unfold Instr.indexAt
        refine (run_ok (s := asIntOf (.int ik i)) (a := (ik, i)) (w' := w) rfl).trans ?_
        simp only
        refine (run_ok (run_underlying hu w)).trans ?_
        refine (run_ok (a := (some (⟨(ρ k).1, 0, none⟩ : Addr), len, elem)) (w' := w) rfl).trans ?_
        simp only
        refine (run_ok (run_underlying hu w)).trans ?_
        rw [if_pos hb]
        refine (run_ok (run_sizeOf hs w)).trans ?_
        rw [hr, addr_add, Nat.zero_add]
        rfl
      split at h
      · obtain rfl := Option.some.inj h
        exact ⟨fin _ hob.one rfl, rfl⟩
      · split at h
        · rename_i hb
          obtain rfl := Option.some.inj h
          exact ⟨fin _ hb rfl, rfl⟩
        · cases h
    · cases h
  · cases h

theorem field_sound {P : Program} {t : TypeId} {i : Nat} {l : List At} {r : AV} (h : opField P t i l = some r) (ρ : Rho) (w : World) :
    (Instr.field t (.agg (flat ρ l).toArray) i).run P w = .ok (r.val ρ) w := by
  unfold opField at h
  unfold Instr.field
  split at h
  · rename_i fields hu
    refine (run_ok (run_underlying hu w)).trans ?_
    simp only
    split at h
    · rename_i f hf
      rw [hf]
      simp only
      refine (run_ok (s := asAgg (.agg (flat ρ l).toArray)) (a := (flat ρ l).toArray) (w' := w) rfl).trans ?_
      exact part_sound h ρ w
    · cases h
  · cases h

theorem index_sound {P : Program} {t : TypeId} {l : List At} {ik : IntKind} {i : Int} {r : AV} (h : opIndex P t l i = some r) (ρ : Rho) (w : World) :
    (Instr.index t (.agg (flat ρ l).toArray) (.int ik i)).run P w = .ok (r.val ρ) w := by
  unfold opIndex at h
  unfold Instr.index
  refine (run_ok (s := asIntOf (.int ik i)) (a := (ik, i)) (w' := w) rfl).trans ?_
  simp only
  split at h
  · rename_i len elem hu
    split at h
    · rename_i n hs
      split at h
      · rename_i hb
        refine (run_ok (run_underlying hu w)).trans ?_
        simp only
        rw [if_pos hb]
        refine (run_ok (run_sizeOf hs w)).trans ?_
        exact part_sound h ρ w
      · cases h
    · cases h
  · cases h

theorem slice_sound {P : Program} {t : TypeId} {k : Nat} {r : AV} (h : opSlice P t k = some r) (ρ : Rho) (w : World) :
    (Instr.sliceAt t (.pointer (some ⟨(ρ k).1, 0, none⟩)) none none none).run P w = .ok (r.val ρ) w := by
  unfold opSlice at h
  unfold Instr.sliceAt
  split at h
  · rename_i n elem hu
    refine (run_ok (run_underlying hu w)).trans ?_
    simp only
    split at h
    · rename_i sz hs
      refine (run_ok (s := Instr.sureAddr (.pointer (some ⟨(ρ k).1, 0, none⟩))) (a := ⟨(ρ k).1, 0, none⟩) (w' := w) rfl).trans ?_
      refine (run_ok (a := (0, n, n)) (w' := w) rfl).trans ?_
      simp only
      refine (run_ok (run_sizeOf hs w)).trans ?_
      rw [← Option.some.inj h]
      have : (if n = 0 then (⟨(ρ k).1, 0, none⟩ : Addr) else Addr.add ⟨(ρ k).1, 0, none⟩ (0 * sz)) = ⟨(ρ k).1, 0, none⟩ := by
        split
        · rfl
        · rw [Nat.zero_mul]; rfl
      show Result.ok _ w = _
      simp only [AV.val, G.val, At.val, Option.getD_some, Nat.sub_zero, this]
    · cases h
  · cases h

theorem len_sound {P : Program} {ats : Array TypeId} {len : Nat} {r : AV} (h : opLen P ats len = some r) (ρ : Rho) (w : World) (ty : TypeId) (a : Option Addr) (cap : Nat) :
    (Builtin.len_ ats ty #[.slice a len cap]).run P w = .ok (r.val ρ) w := by
  unfold opLen at h
  unfold Builtin.len_
  split at h
  · rename_i t ht
    split at h
    · rename_i e hu
      rw [ht]
      refine (run_ok (run_underlying hu w)).trans ?_
      rw [← Option.some.inj h]; rfl
    · cases h
  · cases h

theorem elsOf_spec : ∀ {l : List At} {es : List El}, elsOf l = some es → l = es.map .e
  | [], es, h => by rw [elsOf] at h; rw [← Option.some.inj h]; rfl
  | .e x :: l, es, h => by
    rw [elsOf] at h
    cases hl : elsOf l with
    | none => rw [hl] at h; cases h
    | some es' =>
      rw [hl, Option.map_some] at h
      rw [← Option.some.inj h, elsOf_spec hl]; rfl
  | .r _ _ :: l, es, h | .t _ :: l, es, h | .d _ :: l, es, h | .v _ :: l, es, h | .p _ _ :: l, es, h | .s _ _ _ :: l, es, h | .c _ _ _ :: l, es, h => by simp [elsOf] at h
theorem valsOf_spec : ∀ {l : List At} {vs : List Value}, valsOf l = some vs → l = vals vs
  | [], vs, h => by rw [valsOf] at h; rw [← Option.some.inj h]; rfl
  | .v x :: l, vs, h => by
    rw [valsOf] at h
    cases hl : valsOf l with
    | none => rw [hl] at h; cases h
    | some vs' =>
      rw [hl, Option.map_some] at h
      rw [← Option.some.inj h, valsOf_spec hl]; rfl
  | .r _ _ :: l, vs, h | .t _ :: l, vs, h | .d _ :: l, vs, h | .e _ :: l, vs, h | .p _ _ :: l, vs, h | .s _ _ _ :: l, vs, h | .c _ _ _ :: l, vs, h => by simp [valsOf] at h
theorem capsOf_spec : ∀ {l : List AV} {ks : List Nat}, capsOf l = some ks → l = ks.map fun k => .g (.a (.p k 0))
  | [], ks, h => by rw [capsOf] at h; rw [← Option.some.inj h]; rfl
  | x :: l, ks, h => by
    unfold capsOf at h
    split at h
    · rename_i e; cases e
    · rename_i k l' e
      obtain ⟨rfl, rfl⟩ := List.cons.inj e
      cases hl : capsOf l with
      | none => rw [hl] at h; cases h
      | some ks' =>
        rw [hl, Option.map_some] at h
        rw [← Option.some.inj h, capsOf_spec hl]; rfl
    · cases h

theorem flat_els (ρ : Rho) (es : List El) : flat ρ (es.map .e) = es.flatMap El.cells := by
  unfold flat
  rw [List.flatMap_map]
  rfl

theorem makeFunc_sound {P : Program} {fn : Fn} {xs : List AV} {r : AV} {nf : Nat} (h : opMakeFunc fn nf xs = some r) (ρ : Rho) (w : World) {first caps : Array Value} (hl : first.size = nf) (hx : first.toList ++ caps.toList = xs.map (AV.val ρ)) :
    (Instr.makeFunc fn first caps).run P w = .ok (r.val ρ) w := by
  show Result.ok (Value.func fn first caps) w = _
  congr 1
  unfold opMakeFunc at h
  split at h
  · rename_i f
    split at h
    · rename_i h0
      have hf : first = #[] := by
        apply Array.eq_empty_of_size_eq_zero hl
      subst hf
      split at h
      · rename_i ks hk
        rw [← Option.some.inj h]
        have e := capsOf_spec hk
        rw [e] at hx
        simp only [List.nil_append, List.map_map] at hx
        simp only [AV.val, G.val, At.val]
        congr 1
        rw [← Array.toArray_toList (xs := caps), hx]
        rfl
      · cases h
    · rename_i h0
      split at h
      · rename_i l
        have hc : first.toList = [.agg (flat ρ l).toArray] ∧ caps.toList = [] := by
          simp only [List.map_cons, List.map_nil, AV.val, G.val] at hx
          have hsz : first.toList.length ≠ 0 := by rw [Array.length_toList, hl]; exact h0
          match hh : first.toList with
          | [] => rw [hh] at hsz; exact absurd rfl hsz
          | x :: r =>
            rw [hh, List.cons_append] at hx
            obtain ⟨e1, hx⟩ := List.cons.inj hx
            obtain ⟨h1, h2⟩ := List.append_eq_nil_iff.1 hx
            exact ⟨by rw [e1, h1], h2⟩
        have hf : first = #[.agg (flat ρ l).toArray] := by rw [← Array.toArray_toList (xs := first), hc.1]
        have hcap : caps = #[] := by rw [← Array.toArray_toList (xs := caps), hc.2]
        subst hf hcap
        split at h
        · rename_i e es he
          rw [← Option.some.inj h, elsOf_spec he, flat_els]
          rfl
        · split at h
          · rename_i vs hv
            rw [← Option.some.inj h, valsOf_spec hv, flat_vals]
            rfl
          · cases h
      · cases h
  · cases h

/-- Which blocks an operation reads, or writes. -/
def footOf (op : Op) (xs : List AV) : List Nat :=
  match op with
  | .load _ _ => idsL xs
  | .store _ _ _ => idsL xs
  | .call _ => match fnOf (xs.headD (.tup [])) with
    | some (_, first, caps) => idsL (first ++ xs.tail ++ caps)
    | none => []
  | _ => []

theorem zip_ops {α : Type} (ρ : Rho) : ∀ (ps : List (Nat × α)) (f : α → Value) (xs : List AV), (ps.map (·.2)).map f = xs.map (AV.val ρ) →
    ps.map (fun x => (x.1, f x.2)) = ((ps.map (·.1)).zip xs).map fun x => (x.1, x.2.val ρ)
  | [], f, xs, h => rfl
  | p :: ps, f, [], h => by cases h
  | p :: ps, f, x :: xs, h => by
    simp only [List.map_cons] at h
    obtain ⟨e1, e2⟩ := List.cons.inj h
    simp only [List.map_cons, List.zip_cons_cons, e1, zip_ops ρ ps f xs e2]

theorem parts_eq (ρ : Rho) (ps : Array (Nat × Operand)) (f : Operand → Value) (xs : List AV) (h : (ps.toList.map (·.2)).map f = xs.map (AV.val ρ)) :
    (ps.map fun (i, x) => (i, f x)) = (((ps.toList.map (·.1)).zip xs).map fun x => (x.1, x.2.val ρ)).toArray := by
  rw [← zip_ops ρ ps.toList f xs h]
  apply Array.toList_inj.1
  simp
theorem idsA_vals (l : List Value) : idsA (vals l) = [] := by
  unfold idsA vals
  rw [List.flatMap_map]
  simp [At.ids]

theorem map_ofV (ρ : Rho) (l : List Value) : (l.map ofV).map (AV.val ρ) = l := by
  rw [List.map_map]
  refine (List.map_congr_left fun x _ => ofV_val ρ x).trans (List.map_id _)

theorem fnOf_spec {x : AV} {fn : FuncId} {first caps : List AV} (h : fnOf x = some (fn, first, caps)) (ρ : Rho) : x.val ρ = .func (.func fn) (argsV ρ first) (argsV ρ caps) := by
  unfold fnOf at h
  split at h
  · simp only [Option.some.injEq, Prod.mk.injEq] at h
    obtain ⟨rfl, rfl, rfl⟩ := h
    simp only [argsV, map_ofV, Array.toArray_toList]
    rfl
  · rename_i fn' fi ca
    simp only [Option.some.injEq, Prod.mk.injEq] at h
    obtain ⟨rfl, rfl, rfl⟩ := h
    simp only [AV.val, G.val, At.val, argsV]
    congr 1
    · cases fi with
      | nil => rfl
      | cons e es =>
        simp only [List.isEmpty_cons, Bool.false_eq_true, if_false, List.map_cons, List.map_nil, AV.val, G.val]
        rw [← List.map_cons (f := At.e), flat_els]
    · rw [List.map_map]
      rfl
  · cases h

theorem idsL_append (a b : List AV) : idsL (a ++ b) = idsL a ++ idsL b := by simp [idsL]
theorem idsL_ofV : ∀ l : List Value, idsL (l.map ofV) = []
  | [] => rfl
  | x :: l => by
    have h : (ofV x).ids = [] := by
      cases x with
      | agg cs => exact idsA_vals cs.toList
      | _ => rfl
    have ih := idsL_ofV l
    unfold idsL at ih ⊢
    simp only [List.map_cons, List.flatMap_cons, h, ih, List.append_nil]
theorem idsL_ptrs : ∀ l : List Nat, idsL (l.map fun k => (.g (.a (.p k 0)) : AV)) = l
  | [] => rfl
  | k :: l => by
    have ih := idsL_ptrs l
    unfold idsL at ih ⊢
    simp only [List.map_cons, List.flatMap_cons, ih]
    rfl
theorem idsA_els : ∀ l : List El, idsA (l.map .e) = []
  | [] => rfl
  | x :: l => by
    have ih := idsA_els l
    unfold idsA at ih ⊢
    simp only [List.map_cons, List.flatMap_cons, ih]
    rfl
theorem fnOf_ids {x : AV} {fn : FuncId} {first caps : List AV} (h : fnOf x = some (fn, first, caps)) (xs : List AV) {k : Nat} (hk : k ∈ idsL (first ++ xs ++ caps)) : k ∈ idsL (x :: xs) := by
  have e : idsL (x :: xs) = x.ids ++ idsL xs := by simp [idsL]
  rw [e]
  rw [idsL_append, idsL_append] at hk
  simp only [List.mem_append] at hk ⊢
  unfold fnOf at h
  split at h
  · simp only [Option.some.injEq, Prod.mk.injEq] at h
    obtain ⟨rfl, rfl, rfl⟩ := h
    rw [idsL_ofV, idsL_ofV] at hk
    rcases hk with (hk | hk) | hk
    · cases hk
    · exact .inr hk
    · cases hk
  · rename_i fn' fi ca
    simp only [Option.some.injEq, Prod.mk.injEq] at h
    obtain ⟨rfl, rfl, rfl⟩ := h
    rcases hk with (hk | hk) | hk
    · cases fi with
      | nil => cases hk
      | cons e0 es =>
        have : idsL [(.g (.agg ((e0 :: es).map .e)) : AV)] = idsA ((e0 :: es).map .e) := by simp [idsL, AV.ids, AV.atoms, G.atoms]
        simp only [List.isEmpty_cons, Bool.false_eq_true, if_false] at hk
        rw [this, idsA_els] at hk
        cases hk
    · exact .inr hk
    · rw [idsL_ptrs] at hk
      exact .inl (by simpa [AV.ids, AV.atoms, G.atoms, idsA, At.ids] using hk)
  · cases h

set_option maxHeartbeats 1000000 in
theorem absOp_sound {P : Program} {sp : Sp} (hsp : SpOk P sp) {sy : Bool} {o : Oper} {xs : List AV} {V : View} {kn : Nat} {u : Out} (h : absOp P sp sy o.op o.type xs V kn = some u) (hob : Met u.ob) {w0 : Base} {w : World} {ρ : Rho} {H : View} {a : Act}
    (hV : ∀ k b, V k = some b → H k = some b) (hR : Ref w0 ρ w H) (hx : o.op.operands.toList.map a.eval = xs.map (AV.val ρ)) (hn : H kn = none) (hf : ∀ k b, H k = some b → kn ∉ idsA b.cs) (hfx : kn ∉ idsL xs)
    {next : Act → World → Prop} {Q : Exit → Act → World → Prop} (hk : ∀ ρ' w', (∀ k, k ≠ kn → ρ' k = ρ k) → Ref w0 ρ' w' (updH H u.eff) → next (a.put o.dst (u.r.val ρ')) w') : o.wp P a w next Q := by
  obtain ⟨dst, op, type, pos, after, guard⟩ := o
  simp only at *
  -- an operation that turns nothing
  have pure1 : ∀ {v : Value}, (execOp a.eval ⟨dst, op, type, pos, after, guard⟩).run P w = .ok (.value v) w → u.eff = [] → v = u.r.val ρ → Oper.wp P ⟨dst, op, type, pos, after, guard⟩ a w next Q := fun he e0 ev => by
    subst ev
    exact wp_value he (hk ρ w (fun _ _ => rfl) (by rw [e0, updH_nil]; exact hR))
  have valOne : ∀ {s : Sem Value}, valO (prun P s) = some u → ∃ v, s.run P w = .ok v w ∧ u = ⟨.g (.a (.v v)), [], []⟩ := fun {s} hb => by
    cases hs : prun P s with
    | none => rw [hs] at hb; cases hb
    | some v =>
      rw [hs] at hb
      exact ⟨v, prun_run hs w, (Option.some.inj hb).symm⟩
  unfold absOp at h
  split at h
  · -- move
    obtain rfl := Option.some.inj h
    simp only [Op.operands, List.map_cons, List.map_nil, List.cons.injEq, and_true] at hx
    exact pure1 (by simp only [execOp, hx]; rfl) rfl rfl
  · obtain rfl := Option.some.inj h
    simp only [Op.operands, List.map_cons, List.map_nil, List.cons.injEq, and_true] at hx
    exact pure1 (by simp only [execOp, hx]; rfl) rfl rfl
  · -- pick
    rename_i c x y b xa ya
    obtain rfl := Option.some.inj h
    simp only [Op.operands, List.map_cons, List.map_nil, List.cons.injEq, and_true] at hx
    obtain ⟨h1, h2, h3⟩ := hx
    refine pure1 (v := if b then xa.val ρ else ya.val ρ) ?_ rfl (by cases b <;> rfl)
    simp only [execOp, h1, h2, h3]
    rfl
  · -- alloc
    rename_i t
    split at h
    · rename_i z hz
      split at h
      · obtain rfl := Option.some.inj h
        refine wp_value (v := .pointer (some ⟨w.heap.size, 0, none⟩)) (w' := w.alloc (.cells z.cells t)) ?_ ?_
        · simp only [execOp]
          exact (run_ok (run_alloc hz)).trans rfl
        · have hR' := new_sound hR hn hf (cs := vals z.cells.toList) (by rw [idsA_vals]; exact List.not_mem_nil) t 0
          rw [flat_vals, Array.toArray_toList] at hR'
          have := hk (put1 ρ kn w.heap.size 0) _ (fun k hk => put1_ne _ hk) hR'
          simpa only [AV.val, G.val, At.val, put1_self] using this
      · cases h
    · cases h
  · -- box
    rename_i t x xa
    split at h
    · rename_i hok
      obtain rfl := Option.some.inj h
      simp only [Op.operands, List.map_cons, List.map_nil, List.cons.injEq, and_true] at hx
      refine wp_value (v := .pointer (some ⟨w.heap.size, 0, none⟩)) (w' := w.alloc (.cells (xa.val ρ).cells t)) ?_ ?_
      · simp only [execOp, hx]
        exact (run_ok (run_box t _)).trans rfl
      · have hR' := new_sound hR hn hf (cs := xa.atoms) (by simpa [idsL, AV.ids, AV.atoms] using hfx) t 0
        rw [← G.val_cells hok, Array.toArray_toList] at hR'
        have := hk (put1 ρ kn w.heap.size 0) _ (fun k hk => put1_ne _ hk) hR'
        simpa only [AV.val, G.val, At.val, put1_self] using this
    · cases h
  · -- build
    rename_i t ps
    obtain ⟨e1, e2, _⟩ := bindOne h
    have hp := parts_eq ρ ps a.eval xs (by simpa [Op.operands] using hx)
    refine pure1 (v := u.r.val ρ) ?_ e2 rfl
    simp only [execOp]
    rw [hp]
    exact (run_ok (build_sound e1 ρ w)).trans rfl
  · -- buildSlice
    rename_i t len ps
    have hp := parts_eq ρ ps a.eval xs (by simpa [Op.operands] using hx)
    obtain ⟨cs, elem, hc, rfl, e⟩ := buildSlice_sound h ρ w
    refine wp_value (v := .slice (some ⟨w.heap.size, 0, none⟩) len len) (w' := w.alloc (.cells (flat ρ cs).toArray elem)) ?_ ?_
    · simp only [execOp]
      rw [hp]
      exact (run_ok e).trans rfl
    · have := hk (put1 ρ kn w.heap.size len) _ (fun k hk => put1_ne _ hk) (new_sound hR hn hf hc elem len)
      simpa only [AV.val, G.val, At.val, put1_self, Option.getD_some] using this
  · -- load
    rename_i t x k off
    simp only [Op.operands, List.map_cons, List.map_nil, List.cons.injEq, and_true] at hx
    obtain ⟨e1, e2⟩ := load_sound h hob (hV k) hR
    refine pure1 (v := u.r.val ρ) ?_ e2 rfl
    simp only [execOp, hx]
    exact (run_ok e1).trans rfl
  · -- store
    rename_i t x y k off xa
    simp only [Op.operands, List.map_cons, List.map_nil, List.cons.injEq, and_true] at hx
    obtain ⟨w', e, er, hR'⟩ := store_sound h hob (hV k) hR
    refine wp_unit (w' := w') ?_ (by have := hk ρ w' (fun _ _ => rfl) hR'; rw [er] at this; exact this)
    simp only [execOp, hx.1, hx.2]
    exact (run_ok e).trans rfl
  · -- nilCheck
    rename_i x k off
    obtain rfl := Option.some.inj h
    simp only [Op.operands, List.map_cons, List.map_nil, List.cons.injEq, and_true] at hx
    exact pure1 (v := .pointer (some ⟨(ρ k).1, off, none⟩)) (by simp only [execOp, hx]; rfl) rfl rfl
  · -- binOp
    obtain ⟨v, e, rfl⟩ := valOne h
    simp only [Op.operands, List.map_cons, List.map_nil, List.cons.injEq, and_true] at hx
    refine pure1 (v := v) ?_ rfl rfl
    simp only [execOp, hx.1, hx.2]
    exact (run_ok e).trans rfl
  · -- unOp
    obtain ⟨v, e, rfl⟩ := valOne h
    simp only [Op.operands, List.map_cons, List.map_nil, List.cons.injEq, and_true] at hx
    refine pure1 (v := v) ?_ rfl rfl
    simp only [execOp, hx]
    exact (run_ok e).trans rfl
  · -- convert
    obtain ⟨v, e, rfl⟩ := valOne h
    simp only [Op.operands, List.map_cons, List.map_nil, List.cons.injEq, and_true] at hx
    refine pure1 (v := v) ?_ rfl rfl
    simp only [execOp, hx]
    exact (run_ok e).trans rfl
  · -- makeFunc
    rename_i fn first caps
    obtain ⟨e1, e2, _⟩ := bindOne h
    refine pure1 (v := u.r.val ρ) ?_ e2 rfl
    simp only [execOp]
    refine (run_ok (makeFunc_sound e1 ρ w (by simp) ?_)).trans rfl
    rw [← hx]
    simp [Op.operands]
  · -- slice
    rename_i t x k
    obtain ⟨e1, e2, _⟩ := bindOne h
    simp only [Op.operands, Option.toArray, Array.append_empty, List.map_cons, List.map_nil, List.cons.injEq, and_true] at hx
    refine pure1 (v := u.r.val ρ) ?_ e2 rfl
    simp only [execOp, hx]
    exact (run_ok (slice_sound e1 ρ w)).trans rfl
  · -- fieldAddr
    obtain ⟨e1, e2, _⟩ := bindOne h
    simp only [Op.operands, List.map_cons, List.map_nil, List.cons.injEq, and_true] at hx
    refine pure1 (v := u.r.val ρ) ?_ e2 rfl
    simp only [execOp, hx]
    exact (run_ok (fieldAddr_sound e1 ρ w)).trans rfl
  · -- field
    obtain ⟨e1, e2, _⟩ := bindOne h
    simp only [Op.operands, List.map_cons, List.map_nil, List.cons.injEq, and_true] at hx
    refine pure1 (v := u.r.val ρ) ?_ e2 rfl
    simp only [execOp, hx]
    exact (run_ok (field_sound e1 ρ w)).trans rfl
  · -- indexAddr
    simp only [Op.operands, List.map_cons, List.map_nil, List.cons.injEq, and_true] at hx
    obtain ⟨e1, e2⟩ := indexAddr_sound h hob ρ w
    refine pure1 (v := u.r.val ρ) ?_ e2 rfl
    simp only [execOp, hx.1, hx.2]
    exact (run_ok e1).trans rfl
  · -- index
    obtain ⟨e1, e2, _⟩ := bindOne h
    simp only [Op.operands, List.map_cons, List.map_nil, List.cons.injEq, and_true] at hx
    refine pure1 (v := u.r.val ρ) ?_ e2 rfl
    simp only [execOp, hx.1, hx.2]
    exact (run_ok (index_sound e1 ρ w)).trans rfl
  · -- index of a value
    obtain ⟨v, e, rfl⟩ := valOne h
    simp only [Op.operands, List.map_cons, List.map_nil, List.cons.injEq, and_true] at hx
    refine pure1 (v := v) ?_ rfl rfl
    simp only [execOp, hx.1, hx.2]
    exact (run_ok e).trans rfl
  · -- extract
    rename_i x i l
    split at h
    · rename_i y hy
      obtain rfl := Option.some.inj h
      simp only [Op.operands, List.map_cons, List.map_nil, List.cons.injEq, and_true] at hx
      refine pure1 (v := y.val ρ) ?_ rfl rfl
      simp only [execOp, hx]
      refine (run_ok (a := y.val ρ) (w' := w) ?_).trans rfl
      simp only [AV.val, Instr.extract, List.getElem?_toArray, List.getElem?_map, hy, Option.map_some]
      rfl
    · cases h
  · -- len
    rename_i args ats k len cap
    obtain ⟨e1, e2, _⟩ := bindOne h
    refine pure1 (v := u.r.val ρ) ?_ e2 rfl
    have hx' : args.map a.eval = #[.slice (some ⟨(ρ k).1, 0, none⟩) len (cap.getD (ρ k).2)] := by
      apply Array.toList_inj.1
      simpa [Op.operands, Call.operands, AV.val, G.val, At.val] using hx
    simp only [execOp, resolve, hx']
    exact (run_ok (s := pure _) rfl).trans ((run_ok (len_sound e1 ρ w type _ _)).trans rfl)
  · -- len of a value
    rename_i args ats x
    obtain ⟨v, e, rfl⟩ := valOne h
    refine pure1 (v := v) ?_ rfl rfl
    have hx' : args.map a.eval = #[x] := by
      apply Array.toList_inj.1
      simpa [Op.operands, Call.operands, AV.val, G.val, At.val] using hx
    simp only [execOp, resolve, hx']
    exact (run_ok (s := pure _) rfl).trans ((run_ok e).trans rfl)
  · -- call
    rename_i f args ats xf xargs
    split at h
    · rename_i fn first caps hfn
      have hx2 : a.eval f = xf.val ρ ∧ args.toList.map a.eval = xargs.map (AV.val ρ) := by
        simpa [Op.operands, Call.operands] using hx
      have hargs : args.map a.eval = argsV ρ xargs := by
        apply Array.toList_inj.1
        simpa [argsV] using hx2.2
      have hrun : ∀ X, (callFunc fn (argsV ρ (first ++ xargs ++ caps))).run P w = X → (execOp a.eval ⟨dst, .call { callee := .value f, args, argTypes := ats }, type, pos, after, guard⟩).run P w = X := fun X hX => by
        have he : argsV ρ (first ++ xargs ++ caps) = (argsV ρ first ++ args.map a.eval) ++ argsV ρ caps := by
          rw [hargs]
          simp [argsV]
        rw [he] at hX
        simp only [execOp, resolve, hx2.1, fnOf_spec hfn ρ]
        refine (run_ok (s := Deferred.ofValue (.func (.func fn) (argsV ρ first) (argsV ρ caps)) (args.map a.eval)) (a := { target := .fn (.func fn) (argsV ρ caps), args := argsV ρ first ++ args.map a.eval }) (w' := w) rfl).trans ?_
        exact hX
      have hdoes := hsp fn _ V kn u h hob w0 ρ w H hR hV hn hf (fun hm => hfx (fnOf_ids hfn xargs hm))
      rcases hdoes with ⟨he, hc⟩ | ⟨v, w', he, ρ', h1, rfl, h3⟩
      · unfold Oper.wp
        rw [hrun _ he, Oper.upon_enter]
        refine hc.mono ?_
        rintro e w' ⟨v, rfl, ρ', h1, rfl, h3⟩
        exact hk ρ' w' h1 h3
      · exact wp_value (hrun _ he) (hk ρ' w' h1 h3)
    · cases h
  · cases h
end Go.Proofs.YtkiaodihfofbnaaGreatDoor.X
