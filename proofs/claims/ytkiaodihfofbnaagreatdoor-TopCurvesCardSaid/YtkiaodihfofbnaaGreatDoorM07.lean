/- X448 of a secret number and a point's u is the u of that number times the point (the law TopCurves): part 8 of 22 of its proof: rows that grow, an element's bytes, the base, which points are made. No condition. -/
import Derived.Test.YtkiaodihfofbnaaGreatDoorM06
import Derived.Laws.Append
import Derived.Laws.IdiomCopy
set_option linter.unusedVariables false
set_option linter.unusedSimpArgs false
namespace Go.Proofs.YtkiaodihfofbnaaGreatDoor.X
open Go Go.RowKit
set_option maxRecDepth 100000

/-- How elements lie in a row. -/
structure Rw where
  α : Type
  at_ : List α → At
  enc : α → List Value
  size : Nat
  zero : α
  zv : Value
  pos : 0 < size
  cells : ∀ ρ l, (at_ l).cells ρ = l.flatMap enc
  ids : ∀ l, (at_ l).ids = []
  len : ∀ x, (enc x).length = size
  ok : ∀ x, ∀ v ∈ enc x, cellOk v = true
  zero_enc : enc zero = List.replicate size zv
def rwI (k : IntKind) : Rw where
  α := Int
  at_ := .r k
  enc := fun x => [.int k x]
  size := 1
  zero := 0
  zv := .int k 0
  pos := by decide
  cells := fun ρ l => by
    show l.map (Value.int k) = _
    induction l with
    | nil => rfl
    | cons x l ih => rw [List.map_cons, List.flatMap_cons, ih]; rfl
  ids := fun _ => rfl
  len := fun _ => rfl
  ok := fun x v hv => by rw [List.mem_singleton.1 hv]; rfl
  zero_enc := rfl
def rwP : Rw where
  α := Pt
  at_ := .t
  enc := pcells
  size := 24
  zero := zeroPt
  zv := .int .u64 0
  pos := by decide
  cells := fun ρ l => rfl
  ids := fun _ => rfl
  len := fun p => by simp [pcells, El.cells]
  ok := fun p v hv => by
    simp only [pcells, El.cells, List.cons_append, List.nil_append, List.mem_cons, List.not_mem_nil, or_false] at hv
    rcases hv with h | h | h | h | h | h | h | h | h | h | h | h | h | h | h | h | h | h | h | h | h | h | h | h <;> subst h <;> rfl
  zero_enc := rfl
theorem Rw.len_all (R : Rw) : ∀ l : List R.α, (l.flatMap R.enc).length = l.length * R.size
  | [] => by simp
  | x :: l => by rw [List.flatMap_cons, List.length_append, R.len, R.len_all l, List.length_cons, Nat.add_mul, Nat.one_mul, Nat.add_comm]
theorem Rw.ok_all (R : Rw) (l : List R.α) : ∀ v ∈ l.flatMap R.enc, cellOk v = true := fun v hv => by
  obtain ⟨x, _, hx⟩ := List.mem_flatMap.1 hv
  exact R.ok x v hx
theorem Rw.zeros (R : Rw) : ∀ n : Nat, (List.replicate n R.zero).flatMap R.enc = List.replicate (n * R.size) R.zv
  | 0 => by simp
  | n + 1 => by rw [List.replicate_succ, List.flatMap_cons, R.zeros n, R.zero_enc, List.replicate_append_replicate, Nat.add_mul, Nat.one_mul, Nat.add_comm]
theorem Rw.zeroCells (R : Rw) {z : Value} (hz : z.cells = (List.replicate R.size R.zv).toArray) (n : Nat) : Builtin.zeroCells z.cells n = ((List.replicate n R.zero).flatMap R.enc).toArray := by
  rw [R.zeros]
  unfold Builtin.zeroCells
  rw [hz]
  apply Array.ext
  · simp
  · intro i h1 h2
    have hp := R.pos
    simp only [List.size_toArray, List.length_replicate, Array.getElem_map, Array.getElem_range, List.getElem_toArray, List.getElem_replicate]
    have hi : i % R.size < R.size := Nat.mod_lt _ hp
    rw [getElem!_pos _ _ (by simpa using hi)]
    simp
theorem flat_rows (R : Rw) (ρ : Rho) (l sp : List R.α) : flat ρ [R.at_ l, R.at_ sp] = l.flatMap R.enc ++ sp.flatMap R.enc := by
  simp [flat, R.cells]
theorem ids_rows (R : Rw) (l sp : List R.α) : idsA [R.at_ l, R.at_ sp] = [] := by
  simp [idsA, R.ids]

/-- What the program says of a row's type. -/
structure RwT (P : Program) (R : Rw) (t e : TypeId) (by_ : Nat) : Prop where
  under : P.underlying t = some (.slice e)
  info : ∃ i z, P.info? e = some i ∧ i.zero = some z ∧ i.size = R.size ∧ i.bytes = by_ ∧ z.cells = (List.replicate R.size R.zv).toArray

/-- A view without one block. -/
def without (H : View) (k : Nat) : View := fun j => if j = k then none else H j
theorem Ref.without {w0 : Base} {w : World} {ρ : Rho} {H : View} (h : Ref w0 ρ w H) (k : Nat) : Ref w0 ρ w (without H k) := by
  have hs : ∀ j b, X.without H k j = some b → j ≠ k ∧ H j = some b := fun j b hj => by
    unfold X.without at hj
    split at hj
    · cases hj
    · rename_i hne; exact ⟨hne, hj⟩
  exact ⟨h.below, fun j b hj => h.holds j b (hs j b hj).2, fun j b hj => h.own j b (hs j b hj).2, fun j b hj => h.ext j b (hs j b hj).2, fun j j' b b' hj hj' => h.inj j j' b b' (hs j b hj).2 (hs j' b' hj').2, h.others, fun j b hj => h.free j b (hs j b hj).2, h.keep⟩
theorem updH_without (H : View) (k : Nat) (b : Blk) : updH (without H k) [(k, b)] = updH H [(k, b)] := by
  funext j
  unfold updH without
  by_cases h : j = k
  · subst h; simp
  · rw [if_neg h]

theorem append_core {P : Program} (R : Rw) {t ty e : TypeId} {by_ : Nat} (hT : RwT P R t e by_) {w0 : Base} {w : World} {ρ : Rho} {H : View} (hR : Ref w0 ρ w H) {k n m : Nat} {l ns : List R.α} (hl : l.length = n) (hns : ns.length = m) (hm0 : 0 < m)
    {sv : Value} (hs : (sv = .slice none 0 0 ∧ l = []) ∨ (∃ a, sv = .slice (some a) 0 0 ∧ l = []) ∨ (∃ sp, sv = .slice (some ⟨(ρ k).1, 0, none⟩) n (ρ k).2 ∧ H k = some ⟨[R.at_ l, R.at_ sp], e, false, true⟩ ∧ (ρ k).2 = n + sp.length))
    {kb c : Nat} {b : Blk} (hb : H kb = some b) (hbs : ∃ r, flat ρ b.cs = ns.flatMap R.enc ++ r)
    (hfree : ∀ k' b', H k' = some b' → k' ≠ k → k ∉ idsA b'.cs) (hby : (n + m) * by_ ≤ 140737488355328) (h63 : n + m ≤ 9223372036854775807) :
    ∃ ρ' w' sp', (Builtin.append_ #[t, t] ty #[sv, .slice (some ⟨(ρ kb).1, 0, none⟩) m c]).run P w = .ok ((At.s k (n + m) none).val ρ') w' ∧ (∀ j, j ≠ k → ρ' j = ρ j) ∧ (ρ' k).2 = n + m + sp'.length ∧
      Ref w0 ρ' w' (updH H [(k, ⟨[R.at_ (l ++ ns), R.at_ sp'], e, false, true⟩)]) := by
  obtain ⟨i, z, hi, hz, hsz, hbz, hzc⟩ := hT.info
  obtain ⟨r, hbs⟩ := hbs
  obtain ⟨rest, _, hheap⟩ := hR.holds kb b hb
  rw [hbs, List.append_assoc] at hheap
  have hnl : (ns.flatMap R.enc).length = m * i.size := by rw [R.len_all, hns, hsz]
  have hcell : ∀ j v, (ns.flatMap R.enc)[j]? = some v → w.cell? ((⟨(ρ kb).1, 0, none⟩ : Addr).add j) = some v := fun j v hj => by
    rw [addr_add, Nat.zero_add, cell_of hheap]
    rw [List.getElem?_append_left (by have := (List.getElem?_eq_some_iff.1 hj).1; exact this)]
    exact hj
  -- a new row
  have new : ∀ (w1 : World) (cap : Nat) (hb1 : Below w.heap.size w w1) (hh : w1.heap[w.heap.size]? = some (.cells (((l ++ ns).flatMap R.enc) ++ ((List.replicate (cap - (n + m)) R.zero).flatMap R.enc)).toArray e (0, 0))) (hc : n + m ≤ cap),
      ∃ ρ' sp', ((At.s k (n + m) none).val ρ') = .slice (some ⟨w.heap.size, 0, none⟩) (n + m) cap ∧ (∀ j, j ≠ k → ρ' j = ρ j) ∧ (ρ' k).2 = n + m + sp'.length ∧ Ref w0 ρ' w1 (updH H [(k, ⟨[R.at_ (l ++ ns), R.at_ sp'], e, false, true⟩)]) := by
    intro w1 cap hb1 hh hc
    refine ⟨put1 ρ k w.heap.size cap, List.replicate (cap - (n + m)) R.zero, ?_, fun j hj => put1_ne _ hj, ?_, ?_⟩
    · simp only [At.val, put1_self, Option.getD_none]
    · rw [put1_self, List.length_replicate]; simp only; omega
    · rw [← updH_without]
      refine (hR.without k).new (by simp [without]) (fun k' b' hk' => ?_) rfl hb1 (Nat.le_refl _) ⟨[], fun _ => rfl, ?_⟩
      · unfold without at hk'
        split at hk'
        · cases hk'
        · rename_i hne; exact hfree k' b' hk' hne
      · rw [put1_self, flat_rows, List.append_nil]
        exact hh
  have drew_below : ∀ o, Below w.heap.size w (w.drew.alloc o) := fun o => ⟨rfl, rfl, rfl, by simp, fun j hj => Below.heap_alloc w.drew _ j hj⟩
  rcases hs with ⟨rfl, rfl⟩ | ⟨a, rfl, rfl⟩ | ⟨sp, rfl, hk, hcap⟩
  · simp only [List.length_nil] at hl
    subst hl
    have hr := run_append_nil (P := P) w t ty e i z hT.under hi hz ⟨(ρ kb).1, 0, none⟩ m c (ns.flatMap R.enc) hnl hcell hm0 (by omega) (by rw [hbz]; rw [Nat.zero_add] at hby; omega)
    have hge := grownCap_ge w m 0 e
    have e0 : (ns.flatMap R.enc).toArray ++ Builtin.zeroCells z.cells (grownCap w m 0 e - m) = (((([] ++ ns) : List R.α).flatMap R.enc) ++ ((List.replicate (grownCap w m 0 e - (0 + m)) R.zero).flatMap R.enc)).toArray := by
      rw [R.zeroCells hzc, Nat.zero_add]; simp
    rw [e0] at hr
    obtain ⟨ρ', sp', e1, e2, e3, e4⟩ := new _ (grownCap w m 0 e) (drew_below _) (heap_alloc_new w.drew _) (by omega)
    refine ⟨ρ', _, sp', ?_, e2, e3, e4⟩
    rw [e1]
    simp only [Nat.zero_add] at hr ⊢
    exact hr
  · simp only [List.length_nil] at hl
    subst hl
    have hr := run_append_grow (P := P) w t ty e i z hT.under hi hz a 0 0 [] (by simp) (fun j v h => by simp at h) ⟨(ρ kb).1, 0, none⟩ m c (ns.flatMap R.enc) hnl hcell (by omega) (by omega) (growslice_fits (by omega) (by rw [hbz]; exact hby))
    have hge := grownCap_ge w (0 + m) 0 e
    have e0 : ([] : List Value).toArray ++ (ns.flatMap R.enc).toArray ++ Builtin.zeroCells z.cells (grownCap w (0 + m) 0 e - (0 + m)) = (((([] ++ ns) : List R.α).flatMap R.enc) ++ ((List.replicate (grownCap w (0 + m) 0 e - (0 + m)) R.zero).flatMap R.enc)).toArray := by
      rw [R.zeroCells hzc]; simp
    rw [e0] at hr
    obtain ⟨ρ', sp', e1, e2, e3, e4⟩ := new _ (grownCap w (0 + m) 0 e) (drew_below _) (heap_alloc_new w.drew _) (by omega)
    refine ⟨ρ', _, sp', ?_, e2, e3, e4⟩
    rw [e1]
    exact hr
  · obtain ⟨rest', hrest', hkheap⟩ := hR.holds k _ hk
    obtain rfl := hrest' rfl
    rw [flat_rows, List.append_nil] at hkheap
    by_cases hroom : n + m ≤ (ρ k).2
    · -- room
      have hspl : sp = sp.take m ++ sp.drop m := (List.take_append_drop m sp).symm
      have htl : (sp.take m).length = m := by rw [List.length_take]; omega
      have hk2 : w.heap[(ρ k).1]? = some (.cells (l.flatMap R.enc ++ ((sp.take m).flatMap R.enc ++ (sp.drop m).flatMap R.enc)).toArray e (0, 0)) := by
        rw [← List.flatMap_append, ← hspl]; exact hkheap
      have hll : (l.flatMap R.enc).length = n * i.size := by rw [R.len_all, hl, hsz]
      obtain ⟨w', hst, hw', ho⟩ := run_storeCells (P := P) (ns.flatMap R.enc) ((sp.take m).flatMap R.enc) w (n * i.size) 0 (l.flatMap R.enc) hk2 (by rw [hll]; rfl) (by rw [R.len_all, R.len_all, hns, htl]) (R.ok_all ns)
      have hfc := run_firstCells_some (P := P) w i.size m ⟨(ρ kb).1, 0, none⟩ m c (ns.flatMap R.enc) hnl hcell
      refine ⟨ρ, w', sp.drop m, ?_, fun _ _ => rfl, by rw [List.length_drop]; omega, ?_⟩
      · simp [Builtin.append_, run_underlying hT.under, sizeOf, typeInfo, hi, Builtin.lenOf, hroom, hfc, Addr.add_lit, hst, At.val]
      · refine hR.put hk rfl rfl ho ⟨[], fun _ => rfl, ?_⟩
        rw [flat_rows, List.append_nil, List.flatMap_append, List.append_assoc]
        exact hw'
    · have hr := run_append_grow (P := P) w t ty e i z hT.under hi hz ⟨(ρ k).1, 0, none⟩ n (ρ k).2 (l.flatMap R.enc) (by rw [R.len_all, hl, hsz]) (fun j v hj => by
        rw [addr_add, Nat.zero_add, cell_of hkheap, List.getElem?_append_left (List.getElem?_eq_some_iff.1 hj).1]
        exact hj) ⟨(ρ kb).1, 0, none⟩ m c (ns.flatMap R.enc) hnl hcell (by omega) (by omega) (growslice_fits (by omega) (by rw [hbz]; exact hby))
      have hge := grownCap_ge w (n + m) (ρ k).2 e
      have e0 : (l.flatMap R.enc).toArray ++ (ns.flatMap R.enc).toArray ++ Builtin.zeroCells z.cells (grownCap w (n + m) (ρ k).2 e - (n + m)) = (((l ++ ns).flatMap R.enc) ++ ((List.replicate (grownCap w (n + m) (ρ k).2 e - (n + m)) R.zero).flatMap R.enc)).toArray := by
        rw [R.zeroCells hzc]; simp
      rw [e0] at hr
      obtain ⟨ρ', sp', e1, e2, e3, e4⟩ := new _ (grownCap w (n + m) (ρ k).2 e) (drew_below _) (heap_alloc_new w.drew _) (by omega)
      refine ⟨ρ', _, sp', ?_, e2, e3, e4⟩
      rw [e1]
      exact hr

/-! ### A region in which a row grows -/
theorem runSeq_pre {P : Program} {sp : Sp} (hsp : SpOk P sp) {sy : Md} {ops : List Oper} {Q : Exit → Act → World → Prop} {w0 : Base} : ∀ (l : List Oper) (j : Nat) (l2 : List Oper) (T T' : List (Option AV)) (H H' : List (Option Blk)) (O O' : List Prop) (ρ : Rho) (a : Act) (w : World), ops.drop j = l ++ l2 →
    runSeq P sp sy ops l T H O = some (T', H', O') → Met O' → Bnd T H → Rel ρ a T.length (lk T) → Ref w0 ρ w (lk H) →
    (∀ ρ' a' w', (∀ k, k < H.length → ρ' k = ρ k) → Bnd T' H' → T'.length = T.length → H.length ≤ H'.length → Rel ρ' a' T'.length (lk T') → Ref w0 ρ' w' (lk H') → wpOps P ops.toArray Q (List.range' (j + l.length) l2.length) a' w') → wpOps P ops.toArray Q (List.range' j (l ++ l2).length) a w
  | [], j, l2, T, T', H, H', O, O', ρ, a, w, _, h, hob, hb, hr, hR, hk => by
    rw [runSeq] at h
    simp only [Option.some.injEq, Prod.mk.injEq] at h
    obtain ⟨rfl, rfl, _⟩ := h
    exact hk ρ a w (fun _ _ => rfl) hb rfl (Nat.le_refl _) hr hR
  | o :: l, j, l2, T, T', H, H', O, O', ρ, a, w, hdrop, h, hob, hb, hr, hR, hk => by
    rw [runSeq] at h
    split at h
    · rename_i r hs
      split at h
      · rename_i hc
        rw [Bool.and_eq_true, Bool.and_eq_true] at hc
        have hd := dstOk_spec hc.1.1
        have hj : ops[j]? = some o := by
          have := congrArg (fun l => l[0]?) hdrop
          simpa using this
        rw [List.cons_append, List.length_cons, List.range'_succ, wpOps_cons]
        refine stepOp_sound hsp hj hs (runSeq_ob l _ _ _ _ _ _ h hob).left (fun _ _ => rfl) (fun _ _ => rfl) (lk_none (Nat.le_refl _)) (fun t v hv hm => Nat.lt_irrefl _ (hb.tv t v hv _ hm)) (fun k b hv hm => Nat.lt_irrefl _ (hb.hv k b hv _ hm)) hr hR (fun d he => hd d ((stepOp_dst hs).trans he)) fun ρ' a' w' h1 h2 h3 => ?_
        refine runSeq_pre (w0 := w0) hsp l (j + 1) l2 (setT T r) T' (setH H r.eff) H' _ O' ρ' a' w' ?_ h hob (hb.upd hd hc.1.2 hc.2) ?_ ?_ fun ρ'' a'' w'' e1 e2 e3 e4 e5 e6 => ?_
        · rw [← List.drop_drop, hdrop]; rfl
        · rw [length_setT, lk_setT hd]; exact h2
        · rw [lk_setH]; exact h3
        · have := hk ρ'' a'' w'' (fun k hk => by rw [e1 k (Nat.lt_of_lt_of_le hk (length_setH _ _)), h1 k (by omega)]) e2 (e3.trans (length_setT _ _)) (Nat.le_trans (length_setH _ _) e4) e5 e6
          rw [List.length_cons, show j + (l.length + 1) = j + 1 + l.length by omega] at this
          exact this
      · cases h
    · cases h

/-- What is known of the temporaries without one block. -/
def dropT (T : List (Option AV)) (k : Nat) : List (Option AV) := T.map fun x => match x with
  | some v => if v.ids.contains k then none else some v
  | none => none
theorem lk_dropT {T : List (Option AV)} {k t : Nat} {v : AV} (h : lk (dropT T k) t = some v) : lk T t = some v ∧ k ∉ v.ids := by
  unfold lk dropT at h
  rw [List.getElem?_map] at h
  unfold lk
  cases hx : T[t]? with
  | none => rw [hx] at h; cases h
  | some x =>
    rw [hx] at h
    cases x with
    | none => cases h
    | some u =>
      simp only [Option.map_some, Option.join_some] at h
      split at h
      · cases h
      · rename_i hc
        obtain rfl := Option.some.inj h
        exact ⟨rfl, by simpa using hc⟩
theorem dropT_length (T : List (Option AV)) (k : Nat) : (dropT T k).length = T.length := by unfold dropT; exact List.length_map ..
def noneHas (H : List (Option Blk)) (k : Nat) : Bool := H.all fun x => match x with
  | some b => !(idsA b.cs).contains k
  | none => true
theorem noneHas_spec {H : List (Option Blk)} {k : Nat} (h : noneHas H k = true) : ∀ j b, lk H j = some b → k ∉ idsA b.cs := fun j b hj => by
  have := List.all_eq_true.1 h _ (lk_mem hj)
  simpa using this
/-- The state once a row has grown. -/
def grownR (R : Rw) (k d n : Nat) (e : TypeId) (l sp : List R.α) : Rec := ⟨some d, .g (.a (.s k n none)), [(k, ⟨[R.at_ l, R.at_ sp], e, false, true⟩)], [], []⟩
def grownSt (R : Rw) (T : List (Option AV)) (H : List (Option Blk)) (O : List Prop) (k d n : Nat) (e : TypeId) (l sp : List R.α) : St :=
  ⟨setT (dropT T k) (grownR R k d n e l sp), setH H (grownR R k d n e l sp).eff, O⟩

theorem region_append {P : Program} {sp : Sp} (hsp : SpOk P sp) {sy : Md} (R : Rw) {t e : TypeId} {by_ : Nat} (hT : RwT P R t e by_) {Q : Exit → Act → World → Prop} {w0 : Base} {id : Nat} {ops : Array Oper} (q : Nat) {o : Oper} {s x d k : Nat}
    (ho : ops.toList[q]? = some o) (hop : o.op = .call { callee := .builtin .append, args := #[.tmp s, .tmp x], argTypes := #[t, t] }) (hg : o.guard = none) (hd : o.dst = some d)
    {st : St} {T1 : List (Option AV)} {H1 : List (Option Blk)} {O1 : List Prop} (h1 : runSeq P sp sy ops.toList (ops.toList.take q) st.T st.H st.ob = some (T1, H1, O1)) (hob : Met O1)
    {n m : Nat} {l ns : List R.α} (hl : l.length = n) (hns : ns.length = m) (hm0 : 0 < m) {ρ : Rho} {a : Act} {w : World} (hs : StOk w0 ρ st a w)
    (hsv : (lk T1 s = some (.g (.a (.v (.slice none 0 0)))) ∧ l = []) ∨ (∃ c j, lk T1 s = some (.g (.a (.s j 0 c))) ∧ c = some 0 ∧ l = []) ∨ (∃ sp, lk T1 s = some (.g (.a (.s k n none))) ∧ lk H1 k = some ⟨[R.at_ l, R.at_ sp], e, false, true⟩ ∧ (ρ k).2 = n + sp.length))
    {kb : Nat} {c : Option Nat} {b : Blk} (hx : lk T1 x = some (.g (.a (.s kb m c)))) (hb : lk H1 kb = some b) (hbs : ∀ ρ, ∃ r, flat ρ b.cs = ns.flatMap R.enc ++ r)
    (hk : (decide (k < st.H.length) && noneHas H1 k && decide (d < T1.length)) = true) (hby : (n + m) * by_ ≤ 140737488355328) (h63 : n + m ≤ 9223372036854775807)
    (hK : ∀ sp' ρ' a' w', (ρ' k).2 = n + m + sp'.length → (∀ j, j < st.H.length → j ≠ k → ρ' j = ρ j) → StOk w0 ρ' (grownSt R T1 H1 O1 k d (n + m) e (l ++ ns) sp') a' w' →
      wpOps P ops Q (List.range' (q + 1) (ops.size - (q + 1))) a' w') : (Code.region id ops false).wp P Q a w := by
  rw [Bool.and_eq_true, Bool.and_eq_true, decide_eq_true_eq, decide_eq_true_eq] at hk
  obtain ⟨⟨hk1, hk2⟩, hk3⟩ := hk
  refine wp_region ?_
  have hq : q < ops.toList.length := (List.getElem?_eq_some_iff.1 ho).1
  have hsplit : ops.toList.drop 0 = ops.toList.take q ++ (o :: ops.toList.drop (q + 1)) := by
    have : o :: ops.toList.drop (q + 1) = ops.toList.drop q := by
      rw [← List.getElem_cons_drop hq]
      rw [(List.getElem?_eq_some_iff.1 ho).2]
    rw [this, List.take_append_drop]; rfl
  have key := runSeq_pre (w0 := w0) (Q := Q) hsp (ops.toList.take q) 0 (o :: ops.toList.drop (q + 1)) st.T T1 st.H H1 st.ob O1 ρ a w hsplit h1 hob hs.bnd hs.rel hs.ref fun ρ1 a1 w1 e1 e2 e3 e4 e5 e6 => ?_
  · rw [← hsplit, List.drop_zero, Array.toArray_toList] at key
    rw [List.range_eq_range', ← Array.length_toList]
    exact key
  · rw [Array.toArray_toList, List.length_cons, List.range'_succ, wpOps_cons]
    have hlt : (ops.toList.take q).length = q := by rw [List.length_take]; omega
    rw [Nat.zero_add, hlt]
    unfold wpOp
    have hoq : ops[q]? = some o := by rw [← Array.getElem?_toList]; exact ho
    simp only [hoq]
    have hw : Region.wanted o (yielded ops a1.tmps) = true := by unfold Region.wanted; rw [hg]
    rw [if_pos hw]
    have h2 : (ops.toList.drop (q + 1)).length = ops.size - (q + 1) := by rw [List.length_drop, Array.length_toList]
    rw [h2]
    have hbe := hb
    -- the row
    have hkρ : ρ1 k = ρ k := e1 k hk1
    obtain ⟨sv, hsv1, hsv2⟩ : ∃ sv, a1.eval (.tmp s) = sv ∧ ((sv = .slice none 0 0 ∧ l = []) ∨ (∃ a, sv = .slice (some a) 0 0 ∧ l = []) ∨ (∃ sp, sv = .slice (some ⟨(ρ1 k).1, 0, none⟩) n (ρ1 k).2 ∧ lk H1 k = some ⟨[R.at_ l, R.at_ sp], e, false, true⟩ ∧ (ρ1 k).2 = n + sp.length)) := by
      rcases hsv with ⟨h, hl0⟩ | ⟨c, j, h, rfl, hl0⟩ | ⟨sp, h, h', h''⟩
      · exact ⟨_, evalT_sound e5 (x := .tmp s) h, .inl ⟨rfl, hl0⟩⟩
      · exact ⟨_, evalT_sound e5 (x := .tmp s) h, .inr (.inl ⟨_, rfl, hl0⟩)⟩
      · exact ⟨_, evalT_sound e5 (x := .tmp s) h, .inr (.inr ⟨sp, rfl, h', by rw [hkρ]; exact h''⟩)⟩
    have hxv := evalT_sound e5 (x := .tmp x) hx
    obtain ⟨ρ2, w2, sp2, r1, r2, r3, r4⟩ := append_core (P := P) R (ty := o.type) hT e6 (k := k) hl hns hm0 hsv2 (c := c.getD (ρ1 kb).2) hb (hbs ρ1) (fun k' b' hk' _ => noneHas_spec hk2 k' b' hk') hby h63
    refine .inl ?_
    have hrun : (execOp a1.eval o).run P w1 = .ok (.value ((At.s k (n + m) none).val ρ2)) w2 := by
      have e1' : a1.eval (.tmp x) = .slice (some ⟨(ρ1 kb).1, 0, none⟩) m (c.getD (ρ1 kb).2) := hxv
      simp [execOp, hop, resolve, invoke, builtin, hsv1, e1', r1]
    refine wp_value hrun ?_
    have hH1 : k < H1.length := Nat.lt_of_lt_of_le hk1 e4
    have hdl : ∀ d', (grownR R k d (n + m) e (l ++ ns) sp2).dst = some d' → d' < (dropT T1 k).length := fun d' h => by
      obtain rfl := Option.some.inj h
      rw [dropT_length]; exact hk3
    have hH2 : H1.length ≤ (setH H1 (grownR R k d (n + m) e (l ++ ns) sp2).eff).length := length_setH _ _
    refine hK sp2 ρ2 _ w2 r3 (fun j hj hne => by rw [r2 j hne, e1 j hj]) ⟨?_, ?_, ?_⟩
    · refine Bnd.upd (T := dropT T1 k) (H := H1) ⟨fun t' v' hv' => e2.tv t' v' (lk_dropT hv').1, e2.hv⟩ hdl ?_ ?_
      · refine List.all_eq_true.2 fun j hj => ?_
        have : j = k := by simpa [grownR, AV.ids, AV.atoms, G.atoms, idsA, At.ids] using hj
        rw [this, decide_eq_true_eq]
        exact Nat.lt_of_lt_of_le hH1 hH2
      · have : effIds (grownR R k d (n + m) e (l ++ ns) sp2).eff = [] := by
          have := ids_rows R (l ++ ns) sp2
          simp only [effIds, grownR, List.flatMap_cons, List.flatMap_nil, this, List.append_nil]
        rw [this]; rfl
    · show Rel ρ2 _ (setT (dropT T1 k) (grownR R k d (n + m) e (l ++ ns) sp2)).length (lk (setT (dropT T1 k) (grownR R k d (n + m) e (l ++ ns) sp2)))
      rw [length_setT, lk_setT hdl, hd]
      refine Rel.put (T := lk (dropT T1 k)) (ρ := ρ1) (kn := k) (dst := some d) (v := .g (.a (.s k (n + m) none))) (eff := (grownR R k d (n + m) e (l ++ ns) sp2).eff) (foot := []) (ob := []) ⟨?_, e5.defers, fun t' v' hv' => e5.at_ t' v' (lk_dropT hv').1⟩ r2 (fun t' v' hv' => (lk_dropT hv').2) (fun d' h => hdl d' h)
      rw [dropT_length]; exact e5.size
    · show Ref w0 ρ2 w2 (lk (setH H1 (grownR R k d (n + m) e (l ++ ns) sp2).eff))
      rw [lk_setH]; exact r4
end Go.Proofs.YtkiaodihfofbnaaGreatDoor.X
namespace Go.Proofs.YtkiaodihfofbnaaGreatDoor.X
open Go Go.RowKit
set_option maxRecDepth 100000

/-- The rest of a region, of which less is told behind it. -/
def restA (P : Program) (sp : Sp) (sy : Md) (q : Nat) (ops : List Oper) (st : St) (ts ks : List Nat) (hl : Nat) : Option St :=
  match runSeq P sp sy ops (ops.drop q) st.T st.H st.ob with
  | some (T, H, O) => match bndB (cutSt ⟨T, H, O⟩ ts ks hl).T (cutSt ⟨T, H, O⟩ ts ks hl).H with
    | true => some (cutSt ⟨T, H, O⟩ ts ks hl)
    | false => none
  | none => none
theorem restA_sound {P : Program} {sp : Sp} (hsp : SpOk P sp) {sy : Md} {q : Nat} {ops : Array Oper} {st st' : St} {ts ks : List Nat} {hl : Nat} (h : restA P sp sy q ops.toList st ts ks hl = some st') (hob : Met st'.ob)
    {w0 : Base} {ρ : Rho} {a : Act} {w : World} (hs : StOk w0 ρ st a w) {Q : Exit → Act → World → Prop} (hk : ∀ ρ' a' w', (∀ k, k < st.H.length → ρ' k = ρ k) → StOk w0 ρ' st' a' w' → Q .normal a' w') :
    wpOps P ops Q (List.range' q (ops.size - q)) a w := by
  unfold restA at h
  split at h
  · rename_i T H O hx
    split at h
    · rename_i hb
      obtain rfl := Option.some.inj h
      have := runSeq_sound (w0 := w0) (Q := Q) hsp (ops.toList.drop q) q st.T T st.H H st.ob O ρ a w rfl hx hob hs.bnd hs.rel hs.ref fun ρ' a' w' h1 h2 h3 h4 h5 h6 => hk ρ' a' w' h1 (StOk.cut ⟨h2, h5, h6⟩ hb)
      rw [Array.toArray_toList, List.length_drop, Array.length_toList] at this
      exact this
    · cases h
  · cases h

/-! ### A limb's bytes -/
def byW (a : Int) (j : Nat) : Int := IntKind.u8.wrap (a.fdiv (2 ^ (8 * j)))
def byL (a : Int) (n : Nat) : List Int := (List.range n).map (byW a)
theorem byL_succ (a : Int) (n : Nat) : byL a (n + 1) = byL a n ++ [byW a n] := by unfold byL; rw [List.range_succ, List.map_append]; rfl
def infoT (P : Program) (e : TypeId) : Option (Nat × Nat × Array Value) := match P.info? e with
  | some i => match i.zero with
    | some z => some (i.size, i.bytes, z.cells)
    | none => none
  | none => none
theorem rwT_of {P : Program} {R : Rw} {t e : TypeId} {by_ : Nat} (h1 : P.underlying t = some (.slice e)) (h2 : infoT P e = some (R.size, by_, (List.replicate R.size R.zv).toArray)) : RwT P R t e by_ := by
  refine ⟨h1, ?_⟩
  unfold infoT at h2
  split at h2
  · rename_i i hi
    split at h2
    · rename_i z hz
      obtain ⟨e1, e2⟩ := Prod.mk.inj (Option.some.inj h2)
      obtain ⟨e2, e3⟩ := Prod.mk.inj e2
      exact ⟨i, z, hi, hz, e1, e2, e3⟩
    · cases h2
  · cases h2
theorem rwT34 : RwT Tryz.prog (rwI .u8) 34 5 1 := rwT_of (by kernel_rfl) (by kernel_rfl)
noncomputable def loopO39 : Code := match tailS 2 ((Tryz.f39.body).getD .skip) with
  | .seq (.seq _ (.block _ (.loop c))) _ => c
  | _ => .skip
noncomputable def loopI39 : Code := match tailS 2 loopO39 with
  | .seq (.block _ c) _ => match tailS 2 c with
    | .block _ (.loop d) => d
    | _ => .skip
  | _ => .skip
noncomputable def ops39 : Array Oper := match tailS 2 loopI39 with
  | .seq (.block _ (.seq _ (.region _ ops _))) _ => ops
  | _ => #[]
/-- The slice so far, and its row. -/
abbrev T39 (x : El) (s : AV) (a : Int) (i j : Int) : List (Option AV) := mkA [(1, ptr 0), (3, s), (5, .g (.a (.v (.int .u64 a)))), (8, .g (.agg [.e x])), (9, I1 .i64 i), (12, I1 .i64 j)] 26 0
abbrev H39 (x : El) (r : Option Blk) : List (Option Blk) := [some ⟨[.e x], 29, false, true⟩, r]
abbrev nilS : AV := .g (.a (.v (.slice none 0 0)))
abbrev rowS (k n : Nat) : AV := .g (.a (.s k n none))
abbrev blk2 (R : Rw) (e : TypeId) (l sp : List R.α) : Blk := ⟨[R.at_ l, R.at_ sp], e, false, true⟩
/-- A slice that grows: nil, or a row of its own. -/
def Grows (w0 : Base) (R : Rw) (e : TypeId) (k : Nat) (mk : AV → Option Blk → St) (l : List R.α) (a : Act) (w : World) : Prop :=
  (l = [] ∧ ∃ ρ, StOk w0 ρ (mk nilS none) a w) ∨ (∃ ρ sp, (ρ k).2 = l.length + sp.length ∧ StOk w0 ρ (mk (rowS k l.length) (some (blk2 R e l sp))) a w)

theorem grows_cases {w0 : Base} {R : Rw} {e : TypeId} {k : Nat} {mk : AV → Option Blk → St} {l : List R.α} {a : Act} {w : World} (h : Grows w0 R e k mk l a w) :
    ∃ ρ s r, StOk w0 ρ (mk s r) a w ∧ ((s = nilS ∧ r = none ∧ l = []) ∨ (∃ sp, s = rowS k l.length ∧ r = some (blk2 R e l sp) ∧ (ρ k).2 = l.length + sp.length)) := by
  rcases h with ⟨rfl, ρ, hs⟩ | ⟨ρ, sp, hc, hs⟩
  · exact ⟨ρ, _, _, hs, .inl ⟨rfl, rfl, rfl⟩⟩
  · exact ⟨ρ, _, _, hs, .inr ⟨sp, rfl, rfl, hc⟩⟩
theorem inner39 (w0 : Base) (x : El) (a i : Int) (j : Nat) (hj : j < 7) (l : List Int) (hl : l.length ≤ 56) {a0 : Act} {w : World} {Q : Exit → Act → World → Prop} (h : Grows w0 (rwI .u8) 5 1 (fun s r => ⟨T39 x s a i j, H39 x r, []⟩) l a0 w)
    (hk : ∀ a' w', Grows w0 (rwI .u8) 5 1 (fun s r => ⟨T39 x s a i ((j + 1 : Nat) : Int), H39 x r, []⟩) (l ++ [byW a j]) a' w' → Q .normal a' w') : loopI39.wp Tryz.prog Q a0 w := by
  have h7 : j = 0 ∨ j = 1 ∨ j = 2 ∨ j = 3 ∨ j = 4 ∨ j = 5 ∨ j = 6 := by omega
  obtain ⟨ρ, s, r, hs, hsr⟩ := grows_cases h
  refine toS_sound (sy := false) (m := 20) (n := 2) (ts := [1, 3, 5, 8, 9, 12]) (ks := [0, 1]) (hl := 2) (st' := ⟨T39 x s a i j, H39 x r, []⟩) hm spOk_nil (by rcases hsr with ⟨rfl, rfl, rfl⟩ | ⟨sp, rfl, rfl, _⟩ <;> rcases h7 with rfl | rfl | rfl | rfl | rfl | rfl | rfl <;> kernel_rfl) met0 hs fun ρ1 a1 w1 hρ1 s1 => ?_
  refine wp_seq (wp_block (wp_seq ?_))
  refine toA_sound (sy := false) (n := 20) (ts := [1, 3, 5, 6, 8, 9, 12]) (ks := [0, 1]) (hl := 2) (ex := .normal) (st' := ⟨mkA [(1, ptr 0), (3, s), (5, .g (.a (.v (.int .u64 a)))), (6, I1 .i64 j), (8, .g (.agg [.e x])), (9, I1 .i64 i), (12, I1 .i64 j)] 26 0, H39 x r, []⟩) hm spOk_nil (by rcases hsr with ⟨rfl, rfl, rfl⟩ | ⟨sp, rfl, rfl, _⟩ <;> rcases h7 with rfl | rfl | rfl | rfl | rfl | rfl | rfl <;> kernel_rfl) met0 s1 fun ρ2 a2 w2 hρ2 s2 => ?_
  refine region_append spOk_nil (rwI .u8) rwT34 7 (s := 15) (x := 21) (d := 22) (k := 1) (sy := false)
    (T1 := mkA [(1, ptr 0), (3, s), (5, .g (.a (.v (.int .u64 a)))), (6, I1 .i64 j), (8, .g (.agg [.e x])), (9, I1 .i64 i), (12, I1 .i64 j), (15, s), (16, .g (.a (.v (.int .u64 a)))), (17, I1 .i64 j), (18, I1 .i64 (8 * (j : Int))), (19, .g (.a (.v (.int .u64 (a.fdiv (2 ^ (8 * j))))))), (20, .g (.a (.v (.int .u8 (byW a j))))), (21, .g (.a (.s 2 1 (some 1))))] 26 0)
    (H1 := H39 x r ++ [some ⟨[.v (.int .u8 (byW a j))], 5, false, true⟩]) (O1 := []) rfl rfl rfl rfl (by rcases hsr with ⟨rfl, rfl, rfl⟩ | ⟨sp, rfl, rfl, _⟩ <;> rcases h7 with rfl | rfl | rfl | rfl | rfl | rfl | rfl <;> kernel_rfl) met0
    (n := l.length) (m := 1) (l := l) (ns := [byW a j]) rfl rfl (by decide) s2 ?_ (kb := 2) (c := some 1) rfl rfl (fun ρ => ⟨[], rfl⟩) ?_ (by show (l.length + 1) * 1 ≤ _; omega) (by omega) ?_
  · rcases hsr with ⟨rfl, rfl, rfl⟩ | ⟨sp, rfl, rfl, hc⟩
    · exact .inl ⟨rfl, rfl⟩
    · exact .inr (.inr ⟨sp, rfl, rfl, by rw [hρ2 1 (show 1 < 2 by decide), hρ1 1 (show 1 < 2 by decide)]; exact hc⟩)
  · rcases hsr with ⟨rfl, rfl, rfl⟩ | ⟨sp, rfl, rfl, hc⟩ <;> kernel_rfl
  · intro sp' ρ3 a3 w3 hc3 _ s3
    refine restA_sound (sy := false) (ts := [1, 3, 5, 8, 9, 12]) (ks := [0, 1]) (hl := 2) (st' := ⟨T39 x (rowS 1 (l.length + 1)) a i j, H39 x (some (blk2 (rwI .u8) 5 (l ++ [byW a j]) sp')), []⟩) spOk_nil (by rcases hsr with ⟨rfl, rfl, rfl⟩ | ⟨sp, rfl, rfl, _⟩ <;> rcases h7 with rfl | rfl | rfl | rfl | rfl | rfl | rfl <;> kernel_rfl) met0 s3 fun ρ4 a4 w4 hρ4 s4 => ?_
    refine toA_sound (sy := false) (n := 20) (ts := [1, 3, 5, 8, 9, 12]) (ks := [0, 1]) (hl := 2) (ex := .normal) (st' := ⟨T39 x (rowS 1 (l.length + 1)) a i ((j + 1 : Nat) : Int), H39 x (some (blk2 (rwI .u8) 5 (l ++ [byW a j]) sp')), []⟩) hm spOk_nil (by rcases h7 with rfl | rfl | rfl | rfl | rfl | rfl | rfl <;> kernel_rfl) met0 s4 fun ρ5 a5 w5 hρ5 s5 => ?_
    refine hk a5 w5 (.inr ⟨ρ5, sp', ?_, ?_⟩)
    · show (ρ5 1).2 = (l ++ [byW a j] : List Int).length + List.length (α := Int) sp'
      rw [hρ5 1 (show 1 < 2 by decide), hρ4 1 (show 1 < 3 by decide), List.length_append]; exact hc3
    · have e : (l ++ [byW a j] : List Int).length = l.length + 1 := List.length_append ..
      show StOk w0 ρ5 ⟨T39 x (rowS 1 (l ++ [byW a j] : List Int).length) a i ((j + 1 : Nat) : Int), _, _⟩ a5 w5
      rw [e]; exact s5

def lN (x : El) : Nat → Nat
  | 0 => x.a0
  | 1 => x.a1
  | 2 => x.a2
  | 3 => x.a3
  | 4 => x.a4
  | 5 => x.a5
  | 6 => x.a6
  | _ => x.a7
abbrev TO39 (x : El) (s : AV) (i : Int) : List (Option AV) := mkA [(1, ptr 0), (3, s), (8, .g (.agg [.e x])), (9, I1 .i64 i)] 26 0
theorem byL_len (a : Int) (n : Nat) : (byL a n).length = n := by unfold byL; simp
theorem outer39 (w0 : Base) (x : El) (i : Nat) (hi : i < 8) (l : List Int) (hl : l.length = 7 * i) {a0 : Act} {w : World} {Q : Exit → Act → World → Prop} (h : Grows w0 (rwI .u8) 5 1 (fun s r => ⟨TO39 x s i, H39 x r, []⟩) l a0 w)
    (hk : ∀ a' w', Grows w0 (rwI .u8) 5 1 (fun s r => ⟨TO39 x s ((i + 1 : Nat) : Int), H39 x r, []⟩) (l ++ byL (lN x i) 7) a' w' → Q .normal a' w') : loopO39.wp Tryz.prog Q a0 w := by
  have h8 : i = 0 ∨ i = 1 ∨ i = 2 ∨ i = 3 ∨ i = 4 ∨ i = 5 ∨ i = 6 ∨ i = 7 := by omega
  obtain ⟨ρ, s, r, hs, hsr⟩ := grows_cases h
  refine toS_sound (sy := false) (m := 20) (n := 2) (ts := [1, 3, 8, 9]) (ks := [0, 1]) (hl := 2) (st' := ⟨TO39 x s i, H39 x r, []⟩) hm spOk_nil (by rcases hsr with ⟨rfl, rfl, rfl⟩ | ⟨sp, rfl, rfl, _⟩ <;> rcases h8 with rfl | rfl | rfl | rfl | rfl | rfl | rfl | rfl <;> kernel_rfl) met0 hs fun ρ1 a1 w1 hρ1 s1 => ?_
  refine wp_seq (wp_block ?_)
  refine toS_sound (sy := false) (m := 20) (n := 2) (ts := [1, 3, 5, 8, 9, 12]) (ks := [0, 1]) (hl := 2) (st' := ⟨T39 x s (lN x i) i 0, H39 x r, []⟩) hm spOk_nil (by rcases hsr with ⟨rfl, rfl, rfl⟩ | ⟨sp, rfl, rfl, _⟩ <;> rcases h8 with rfl | rfl | rfl | rfl | rfl | rfl | rfl | rfl <;> kernel_rfl) met0 s1 fun ρ2 a2 w2 hρ2 s2 => ?_
  have h0 : Grows w0 (rwI .u8) 5 1 (fun s r => ⟨T39 x s (lN x i) i ((0 : Nat) : Int), H39 x r, []⟩) l a2 w2 := by
    rcases hsr with ⟨rfl, rfl, rfl⟩ | ⟨sp, rfl, rfl, hc⟩
    · exact .inl ⟨rfl, ρ2, s2⟩
    · exact .inr ⟨ρ2, sp, by rw [hρ2 1 (show 1 < 2 by decide), hρ1 1 (show 1 < 2 by decide)]; exact hc, s2⟩
  refine wp_block (wp_loop_up 7 (fun j a w => Grows w0 (rwI .u8) 5 1 (fun s r => ⟨T39 x s (lN x i) i (j : Int), H39 x r, []⟩) (l ++ byL (lN x i) j) a w) (by rw [show l ++ byL (lN x i) 0 = l from List.append_nil l]; exact h0) (fun j hj a w h => ?_) (fun a w h => ?_))
  · have hlen : (l ++ byL (lN x i) j).length = l.length + j := by rw [List.length_append, byL_len]
    refine inner39 w0 x (lN x i) i j hj (l ++ byL (lN x i) j) (by rw [hlen]; omega) h fun a' w' h' => ?_
    rw [List.append_assoc, ← byL_succ] at h'
    exact h'
  · obtain ⟨ρ3, s', r', hs3, hsr3⟩ := grows_cases h
    refine toA_sound (sy := false) (n := 20) (ts := [1, 3, 8, 9]) (ks := [0, 1]) (hl := 2) (ex := .exit 2) (st' := ⟨TO39 x s' i, H39 x r', []⟩) hm spOk_nil (by rcases hsr3 with ⟨rfl, rfl, _⟩ | ⟨sp, rfl, rfl, _⟩ <;> kernel_rfl) met0 hs3 fun ρ4 a4 w4 hρ4 s4 => ?_
    refine toA_sound (sy := false) (n := 20) (ts := [1, 3, 8, 9]) (ks := [0, 1]) (hl := 2) (ex := .normal) (st' := ⟨TO39 x s' ((i + 1 : Nat) : Int), H39 x r', []⟩) hm spOk_nil (by rcases hsr3 with ⟨rfl, rfl, _⟩ | ⟨sp, rfl, rfl, _⟩ <;> rcases h8 with rfl | rfl | rfl | rfl | rfl | rfl | rfl | rfl <;> kernel_rfl) met0 s4 fun ρ5 a5 w5 hρ5 s5 => ?_
    refine hk a5 w5 ?_
    rcases hsr3 with ⟨rfl, rfl, h0⟩ | ⟨sp, rfl, rfl, hc⟩
    · exact .inl ⟨h0, ρ5, s5⟩
    · exact .inr ⟨ρ5, sp, by rw [hρ5 1 (show 1 < 2 by decide), hρ4 1 (show 1 < 2 by decide)]; exact hc, s5⟩
/-- The bytes of an element's limbs. -/
def rawL (x : El) : Nat → List Int
  | 0 => []
  | n + 1 => rawL x n ++ byL (lN x n) 7
theorem rawL_len (x : El) : ∀ n, (rawL x n).length = 7 * n
  | 0 => rfl
  | n + 1 => by rw [rawL, List.length_append, byL_len, rawL_len x n]; omega
theorem fun39 : Fun Tryz.prog 39 Tryz.f39 := ⟨Tryz.func39, by kernel_rfl, by kernel_rfl⟩
theorem raw_calls (x : El) {w : World} {ρ : Rho} : Calls Tryz.prog 39 (argsV ρ [E1 x]) w fun e w' => ∃ ρ' sp, (ρ' 1).2 = 56 + sp.length ∧ e = .returned ((rowS 1 56).val ρ') ∧ Ref w ρ' w' (lk [none, some (blk2 (rwI .u8) 5 (rawL x 8) sp)]) := by
  refine fun_wp (H := []) fun39.at_ (c := (Tryz.f39.body).getD .skip) rfl (by kernel_rfl) (read_ref rfl (fun k b hk => by cases hk)) fun a hs => ?_
  refine toS_sound (sy := false) (m := 20) (n := 2) (ts := [1, 3]) (ks := [0]) (hl := 1) (st' := ⟨mkA [(1, ptr 0), (3, nilS)] 26 0, [some ⟨[.e x], 29, false, true⟩], []⟩) hm spOk_nil (by kernel_rfl) met0 hs fun ρ1 a1 w1 _ s1 => ?_
  refine wp_seq (wp_seq ?_)
  refine toA_sound (sy := false) (n := 20) (ts := [1, 3, 8, 9]) (ks := [0]) (hl := 2) (ex := .normal) (st' := ⟨TO39 x nilS 0, [some ⟨[.e x], 29, false, true⟩], []⟩) hm spOk_nil (by kernel_rfl) met0 s1 fun ρ2 a2 w2 _ s2 => ?_
  have s2' : StOk w ρ2 ⟨TO39 x nilS ((0 : Nat) : Int), H39 x none, []⟩ a2 w2 := by
    refine ⟨bndB_spec (by kernel_rfl), s2.rel, ?_⟩
    have e : lk (H39 x none) = lk [some (⟨[.e x], 29, false, true⟩ : Blk)] := by
      funext k
      match k with
      | 0 => rfl
      | 1 => rfl
      | k + 2 => rfl
    rw [e]; exact s2.ref
  refine wp_block (wp_loop_up 8 (fun i a w' => Grows w (rwI .u8) 5 1 (fun s r => ⟨TO39 x s (i : Int), H39 x r, []⟩) (rawL x i) a w') (.inl ⟨rfl, ρ2, s2'⟩) (fun i hi a w' h => outer39 w x i hi (rawL x i) (rawL_len x i) h fun a' w' h' => h') (fun a w' h => ?_))
  obtain ⟨ρ3, s', r', hs3, hsr3⟩ := grows_cases h
  have hlen := rawL_len x 8
  rcases hsr3 with ⟨_, _, h0⟩ | ⟨sp, rfl, rfl, hc⟩
  · have : (rawL x 8).length = 0 := by rw [h0]; rfl
    omega
  · replace hs3 : StOk w ρ3 ⟨TO39 x (rowS 1 (rawL x 8).length) ((8 : Nat) : Int), H39 x (some (blk2 (rwI .u8) 5 (rawL x 8) sp)), []⟩ a w' := hs3
    replace hc : (ρ3 1).2 = (rawL x 8).length + sp.length := hc
    rw [hlen] at hs3 hc
    generalize rawL x 8 = l at hs3 ⊢
    refine toA_sound (sy := false) (n := 20) (ts := [1, 3, 8, 9]) (ks := [0, 1]) (hl := 2) (ex := .exit 0) (st' := ⟨TO39 x (rowS 1 56) ((8 : Nat) : Int), H39 x (some (blk2 (rwI .u8) 5 l sp)), []⟩) hm spOk_nil (by kernel_rfl) met0 hs3 fun ρ4 a4 w4 hρ4 s4 => ?_
    refine toA_sound (sy := false) (n := 20) (ts := [2]) (ks := [1]) (hl := 2) (ex := .ret) (st' := ⟨mkA [(2, rowS 1 56)] 26 0, [none, some (blk2 (rwI .u8) 5 l sp)], []⟩) hm spOk_nil (by kernel_rfl) met0 s4 fun ρ5 a5 w5 hρ5 s5 => ?_
    exact fun_end s5 (l := [.a (.s 1 56 none)]) (by kernel_rfl) ⟨ρ5, sp, by rw [hρ5 1 (show 1 < 2 by decide), hρ4 1 (show 1 < 2 by decide)]; exact hc, rfl, s5.ref⟩ (.inl rfl)

/-- A function that answers a slice of a row of its own. -/
theorem does_new {P : Program} {f : FuncId} {fn : Func} (hf : Fun P f fn) {args : Array Value} {w0 : Base} {w : World} {ρ : Rho} {H : View} (hR : Ref w0 ρ w H) {kn : Nat} (hn : H kn = none) (hfx : ∀ k b, H k = some b → kn ∉ idsA b.cs) {b : Blk} (hown : b.own = true) (hids : idsA b.cs = []) {j n : Nat} {H' : View}
    (hj : ∃ b', b'.cs = b.cs ∧ b'.t = b.t ∧ b'.own = true ∧ (b.opn = false → b'.opn = false) ∧ H' j = some b') (h : Calls P f args w fun e w' => ∃ ρ', e = .returned ((rowS j n).val ρ') ∧ Ref w ρ' w' H') :
    Does P f args w fun v w' => ∃ ρ', (∀ k, k ≠ kn → ρ' k = ρ k) ∧ v = (rowS kn n).val ρ' ∧ Ref w0 ρ' w' (updH H [(kn, b)]) := by
  obtain ⟨b', e1, e2, e3, e4, hb'⟩ := hj
  refine .inl ⟨enters_of hf.at_ hf.name hf.body _ _, h.mono ?_⟩
  rintro e w' ⟨ρ', rfl, hR'⟩
  obtain ⟨rest, hr, hh⟩ := hR'.holds j b' hb'
  refine ⟨_, rfl, put1 ρ kn (ρ' j).1 (ρ' j).2, fun k hk => put1_ne _ hk, ?_, ?_⟩
  · simp only [AV.val, G.val, At.val, put1_self]
  · refine hR.new hn hfx hown hR'.below (hR'.own j b' hb' e3) ⟨rest, fun ho => hr (e4 ho), ?_⟩
    rw [put1_self, hh, e1, e2, flat_congr (ρ := put1 ρ kn (ρ' j).1 (ρ' j).2) (ρ' := ρ') (l := b.cs) (fun k hk => by rw [hids] at hk; cases hk)]
theorem Ref.less {w0 : Base} {w : World} {ρ : Rho} {H H' : View} (h : Ref w0 ρ w H) (hs : ∀ k b', H' k = some b' → ∃ b, H k = some b ∧ b'.own = b.own ∧ (Holds ρ w k b → Holds ρ w k b')) : Ref w0 ρ w H' := by
  refine ⟨h.below, fun k b' hk => ?_, fun k b' hk ho => ?_, fun k b' hk ho => ?_, fun k k' b1 b2 h1 h2 o1 o2 he => ?_, h.others, fun k b' hk ho => ?_, h.keep⟩
  · obtain ⟨b, e1, _, e3⟩ := hs k b' hk; exact e3 (h.holds k b e1)
  · obtain ⟨b, e1, e2, _⟩ := hs k b' hk; exact h.own k b e1 (e2 ▸ ho)
  · obtain ⟨b, e1, e2, _⟩ := hs k b' hk; exact h.ext k b e1 (e2 ▸ ho)
  · obtain ⟨b, a1, a2, _⟩ := hs k b1 h1
    obtain ⟨b', c1, c2, _⟩ := hs k' b2 h2
    exact h.inj k k' b b' a1 c1 (a2 ▸ o1) (c2 ▸ o2) he
  · obtain ⟨b, e1, e2, _⟩ := hs k b' hk; exact h.free k b e1 (e2 ▸ ho)
/-- A row of which the spare is no longer told. -/
theorem holds_row {ρ : Rho} {w : World} {k : Nat} {R : Rw} {e : TypeId} {l sp : List R.α} (h : Holds ρ w k (blk2 R e l sp)) : Holds ρ w k ⟨[R.at_ l], e, true, true⟩ := by
  obtain ⟨rest, hr, hh⟩ := h
  refine ⟨sp.flatMap R.enc ++ rest, (fun h => by cases h), ?_⟩
  rw [hh, flat_rows]
  simp [flat, R.cells]
def e39 : Ent := ⟨39, fun args _ kn => match args with
  | [.g (.agg [.e x])] => some ⟨rowS kn 56, [(kn, ⟨[.r .u8 (rawL x 8)], 5, true, true⟩)], []⟩
  | _ => none⟩
theorem e39_ok : EntOk Tryz.prog e39 := fun args V kn o ho hob w0 ρ w H hR hV hn hf hfx => by
  unfold e39 at ho
  simp only at ho
  split at ho
  · rename_i x
    obtain rfl := Option.some.inj ho
    refine does_new fun39 hR hn hf rfl rfl (j := 1) (H' := lk [none, some (⟨[.r .u8 (rawL x 8)], 5, true, true⟩ : Blk)]) ⟨_, rfl, rfl, rfl, (fun h => by cases h), rfl⟩ ((raw_calls x).mono ?_)
    rintro e w' ⟨ρ', sp, hc, rfl, hR'⟩
    refine ⟨ρ', rfl, hR'.less fun k b' hk => ?_⟩
    match k, hk with
    | 1, hk =>
      obtain rfl := Option.some.inj hk
      exact ⟨_, rfl, rfl, holds_row⟩
  · cases ho
def bytesE (x : El) : List Int := rawL (strE x) 8
theorem fun10 : Fun Tryz.prog 10 Tryz.f10 := ⟨Tryz.func10, by kernel_rfl, by kernel_rfl⟩
def e10 : Ent := ⟨10, fun args _ kn => match args with
  | [.g (.agg [.e x])] => some ⟨rowS kn 56, [(kn, ⟨[.r .u8 (bytesE x)], 5, true, true⟩)], []⟩
  | _ => none⟩
theorem e10_ok : EntOk Tryz.prog e10 := fun args V kn o ho hob w0 ρ w H hR hV hn hf hfx => by
  unfold e10 at ho
  simp only at ho
  split at ho
  · rename_i x
    obtain rfl := Option.some.inj ho
    refine does_new fun10 hR hn hf rfl rfl (j := 1) (H' := lk [none, some (⟨[.r .u8 (bytesE x)], 5, true, true⟩ : Blk)]) ⟨_, rfl, rfl, rfl, (fun h => by cases h), rfl⟩ ?_
    refine fun_wp (H := []) fun10.at_ (c := (Tryz.f10.body).getD .skip) rfl (by kernel_rfl) (read_ref rfl (fun k b hk => by cases hk)) fun a hs => ?_
    refine toA_sound (sy := false) (n := 20) (ts := [2]) (ks := [1]) (hl := 2) (ex := .ret) (st' := ⟨mkA [(2, rowS 1 56)] 6 0, [none, some (⟨[.r .u8 (bytesE x)], 5, true, true⟩ : Blk)], []⟩) hm (spOk_cons e40_ok (spOk_cons e39_ok spOk_nil)) (by kernel_rfl) met0 hs fun ρ5 a5 w5 hρ5 s5 => ?_
    exact fun_end s5 (l := [.a (.s 1 56 none)]) (by kernel_rfl) ⟨ρ5, rfl, s5.ref⟩ (.inl rfl)
  · cases ho
end Go.Proofs.YtkiaodihfofbnaaGreatDoor.X
namespace Go.Proofs.YtkiaodihfofbnaaGreatDoor.X
open Go Go.RowKit
set_option maxRecDepth 100000

def bxS : List UInt8 := [52, 102, 49, 57, 55, 48, 99, 54, 54, 98, 101, 100, 48, 100, 101, 100, 50, 50, 49, 100, 49, 53, 97, 54, 50, 50, 98, 102, 51, 54, 100, 97, 57, 101, 49, 52, 54, 53, 55, 48, 52, 55, 48, 102, 49, 55, 54, 55, 101, 97, 54, 100, 101, 51, 50, 52, 97, 51, 100, 51, 97, 52, 54, 52, 49, 50, 97, 101, 49, 97, 102, 55, 50, 97, 98, 54, 54, 53, 49, 49, 52, 51, 51, 98, 56, 48, 101, 49, 56, 98, 48, 48, 57, 51, 56, 101, 50, 54, 50, 54, 97, 56, 50, 98, 99, 55, 48, 99, 99, 48, 53, 101]
def byS : List UInt8 := [54, 57, 51, 102, 52, 54, 55, 49, 54, 101, 98, 54, 98, 99, 50, 52, 56, 56, 55, 54, 50, 48, 51, 55, 53, 54, 99, 57, 99, 55, 54, 50, 52, 98, 101, 97, 55, 51, 55, 51, 54, 99, 97, 51, 57, 56, 52, 48, 56, 55, 55, 56, 57, 99, 49, 101, 48, 53, 97, 48, 99, 50, 100, 55, 51, 97, 100, 51, 102, 102, 49, 99, 101, 54, 55, 99, 51, 57, 99, 52, 102, 100, 98, 100, 49, 51, 50, 99, 52, 101, 100, 55, 99, 56, 97, 100, 57, 56, 48, 56, 55, 57, 53, 98, 102, 50, 51, 48, 102, 97, 49, 52]
def bxL : List Int := [94, 192, 12, 199, 43, 168, 38, 38, 142, 147, 0, 139, 225, 128, 59, 67, 17, 101, 182, 42, 247, 26, 174, 18, 100, 164, 211, 163, 36, 227, 109, 234, 103, 23, 15, 71, 112, 101, 20, 158, 218, 54, 191, 34, 166, 21, 29, 34, 237, 13, 237, 107, 198, 112, 25, 79]
def byLi : List Int := [20, 250, 48, 242, 91, 121, 8, 152, 173, 200, 215, 78, 44, 19, 189, 253, 196, 57, 124, 230, 28, 255, 211, 58, 215, 194, 160, 5, 30, 156, 120, 135, 64, 152, 163, 108, 115, 115, 234, 75, 98, 199, 201, 86, 55, 32, 118, 136, 36, 188, 182, 110, 113, 70, 63, 105]
theorem bx256 : Bytes256 bxL := by unfold Bytes256 bxL; decide
theorem by256 : Bytes256 byLi := by unfold Bytes256 byLi; decide
def bxE : El := ofE bxL
def byE : El := ofE byLi
theorem fun47 : Fun Tryz.prog 47 Tryz.f47 := ⟨Tryz.func47, by kernel_rfl, by kernel_rfl⟩
def e47 : Ent := ⟨47, fun args _ _ => match args with
  | [.g (.a (.v (.string s)))] => if s = ⟨bxS.toArray⟩ then some ⟨E1 bxE, [], []⟩ else if s = ⟨byS.toArray⟩ then some ⟨E1 byE, [], []⟩ else none
  | _ => none⟩
theorem e47_ok : EntOk Tryz.prog e47 := fun args V kn o ho hob w0 ρ w H hR hV hn hf hfx => by
  unfold e47 at ho
  simp only at ho
  split at ho
  · rename_i s
    split at ho
    · rename_i hs
      obtain rfl := Option.some.inj ho
      subst hs
      exact does_ref hR ((plain_run (args := [.g (.a (.v (.string ⟨bxS.toArray⟩)))]) (r := E1 bxE) (ob := [Bytes256 bxL]) hm (spOk_cons e38_ok spOk_nil) fun47 false 1000 (by kernel_rfl) (fun p hp => by rw [List.mem_singleton.1 hp]; exact bx256) (by kernel_rfl)) w ρ)
    · split at ho
      · rename_i hs
        obtain rfl := Option.some.inj ho
        subst hs
        exact does_ref hR ((plain_run (args := [.g (.a (.v (.string ⟨byS.toArray⟩)))]) (r := E1 byE) (ob := [Bytes256 byLi]) hm (spOk_cons e38_ok spOk_nil) fun47 false 1000 (by kernel_rfl) (fun p hp => by rw [List.mem_singleton.1 hp]; exact by256) (by kernel_rfl)) w ρ)
      · cases ho
  · cases ho
def baseP : Pt := (bxE, byE, E1')
theorem fun19 : Fun Tryz.prog 19 Tryz.f19 := ⟨Tryz.func19, by kernel_rfl, by kernel_rfl⟩
def e19 : Ent := ent0 19 (P1 baseP)
theorem e19_ok : EntOk Tryz.prog e19 := ent0_ok (plain_run (args := []) hm (spOk_cons e47_ok (spOk_cons e30_ok spOk_nil)) fun19 false 100 (ob := []) (by kernel_rfl) met0 (by kernel_rfl))

end Go.Proofs.YtkiaodihfofbnaaGreatDoor.X
namespace Go.Proofs.YtkiaodihfofbnaaGreatDoor.X
open Go Go.RowKit
set_option maxRecDepth 100000

/-- (1, 0), added so often. -/
def iP : Pt := (E1', E0, E1')
def qP (add : Pt → Pt → Pt) : Nat → Pt
  | 0 => idP
  | n + 1 => add (qP add n) iP
theorem tmod_low (n : Int) : -4 < n.tmod 4 := by
  cases n with
  | ofNat m => have : (Int.ofNat m).tmod 4 = ((m % 4 : Nat) : Int) := rfl
               omega
  | negSucc m => have : (Int.negSucc m).tmod 4 = -(((m + 1) % 4 : Nat) : Int) := rfl
                 omega
def qd (n : Int) : Nat := ((IntKind.i64.wrap (n.tmod 4 + 4)).tmod 4).toNat
theorem qd_spec (n : Int) : (IntKind.i64.wrap (n.tmod 4 + 4)).tmod 4 = (qd n : Int) ∧ qd n < 4 := by
  have h1 : n.tmod 4 < 4 := Int.tmod_lt_of_pos n (by decide)
  have h2 := tmod_low n
  unfold qd
  rw [wrap_in (by omega)]
  generalize n.tmod 4 = c at *
  have : 0 ≤ c + 4 := by omega
  rw [Int.tmod_eq_emod_of_nonneg this]
  omega
theorem qd_eq (n : Int) : qd n = (n % 4).toNat := by
  have h1 : n.tmod 4 < 4 := Int.tmod_lt_of_pos n (by decide)
  have h2 := tmod_low n
  unfold qd
  rw [wrap_in (by omega), Int.tmod_eq_emod_of_nonneg (by omega)]
  congr 1
  have := Int.tmod_add_mul_tdiv n 4
  omega
def spQ (add : Pt → Pt → Pt) : Sp := spOf [e30, e44, e16, ent2 17 pP pP fun p q => P1 (add p q)]
theorem spQ_ok : SpOk Tryz.prog (spQ addP) := spOk_cons e30_ok (spOk_cons e44_ok (spOk_cons e16_ok (spOk_cons e17_ok spOk_nil)))
theorem fun15 : Fun Tryz.prog 15 Tryz.f15 := ⟨Tryz.func15, by kernel_rfl, by kernel_rfl⟩
def obQ (n : Int) (r : Nat) : List Prop := List.replicate (r + 1) (Value.int .i64 ((IntKind.i64.wrap (n.tmod 4 + 4)).tmod 4) = Value.int .i64 (r : Int)) ++ [onC E1' E0 = true]
def qR (p : Pt) : AV := .tup [.agg [.e p.1, .e p.2.1, .e p.2.2], .a (.v (.bool true))]
theorem quarter_run (add : Pt → Pt → Pt) (n : Int) (r : Nat) (hr : r < 4) : ansOf (runFn Tryz.prog (spQ add) ⟨true, [(19, .int .i64 (r : Int))]⟩ 100 Tryz.f15 [I1 .i64 n] []) = some (qR (qP add r), obQ n r) := by
  have h : r = 0 ∨ r = 1 ∨ r = 2 ∨ r = 3 := by omega
  rcases h with rfl | rfl | rfl | rfl <;> (show ansOf _ = some _; kernel_rfl)
theorem onC_i : onC E1' E0 = true := by kernel_rfl
theorem quarter_plain (n : Int) : Plain Tryz.prog 15 [I1 .i64 n] (qR (qP addP (qd n))) :=
  plain_run hm spQ_ok fun15 _ 100 (quarter_run addP n (qd n) (qd_spec n).2) (fun p hp => by
    unfold obQ at hp
    rcases List.mem_append.1 hp with h | h
    · rw [(List.mem_replicate.1 h).2, (qd_spec n).1]
    · rw [List.mem_singleton.1 h]; exact onC_i) (by kernel_rfl)
def e15 (q : Int → Pt) : Ent := ⟨15, fun args _ _ => match args with
  | [.g (.a (.v (.int .i64 n)))] => some ⟨qR (q n), [], []⟩
  | _ => none⟩
theorem e15_ok : EntOk Tryz.prog (e15 fun n => qP addP (qd n)) := fun args V kn o ho hob w0 ρ w H hR hV hn hf hfx => by
  unfold e15 at ho
  simp only at ho
  split at ho
  · rename_i n
    obtain rfl := Option.some.inj ho
    exact does_ref hR (quarter_plain n w ρ)
  · cases ho

/-! ### Made -/
def e18g (t : List Int → Pt → Pt) : Ent := ⟨18, fun args V _ => match args with
  | [.g (.a (.s k 57 _)), .g (.agg [.e x, .e y, .e z])] => match V k with
    | some b => match rowB 57 b.cs with
      | some (l, ob) => some ⟨P1 (t l (x, y, z)), [], Bytes256 l :: ob⟩
      | none => none
    | none => none
  | _ => none⟩
theorem e18g_ok : EntOk Tryz.prog (e18g fun l p => (tm l p 456).2) := e18_ok
def spM (add : Pt → Pt → Pt) (t : List Int → Pt → Pt) (q : Int → Pt) (b : Pt) : Sp := spOf [e15 q, e16, e18g t, ent0 19 (P1 b), ent2 17 pP pP fun p q => P1 (add p q)]
theorem spM_ok : SpOk Tryz.prog (spM addP (fun l p => (tm l p 456).2) (fun n => qP addP (qd n)) baseP) :=
  spOk_cons e15_ok (spOk_cons e16_ok (spOk_cons e18g_ok (spOk_cons e19_ok (spOk_cons e17_ok spOk_nil))))
theorem fun4 : Fun Tryz.prog 4 Tryz.f4 := ⟨Tryz.func4, by kernel_rfl, by kernel_rfl⟩
/-- A place of 57 bytes and a number. -/
def spot (l : List Int) (n : Int) : AV := .g (.agg (vals (l.map (Value.int .u8)) ++ [.v (.int .i64 n)]))
def l57 (g : Nat → Int) : List Int := (List.range 57).map g
theorem made_run (add : Pt → Pt → Pt) (t : List Int → Pt → Pt) (q : Int → Pt) (b : Pt) (g : Nat → Int) (n : Int) : ansOf (runFn Tryz.prog (spM add t q b) ⟨false, []⟩ 100 Tryz.f4 [spot (l57 g) n] []) = some (qR (add (t (l57 g) b) (q n)), [Bytes256 (l57 g)]) := by
  show ansOf _ = some _
  kernel_rfl
theorem l57_of {l : List Int} (h : l.length = 57) : l = l57 (fun i => l.getD i 0) := by
  unfold l57
  apply List.ext_getElem
  · simp [h]
  · intro i h1 h2
    simp [List.getElem?_eq_getElem h1]
def madeP (l : List Int) (n : Int) : Pt := addP (tm l baseP 456).2 (qP addP (qd n))
theorem made_plain {l : List Int} (h : l.length = 57) (hb : Bytes256 l) (n : Int) : Plain Tryz.prog 4 [spot l n] (qR (madeP l n)) := by
  have e := l57_of h
  rw [e] at hb ⊢
  exact plain_run hm spM_ok fun4 _ 100 (made_run addP _ _ baseP _ n) (fun p hp => by rw [List.mem_singleton.1 hp]; exact hb) (by kernel_rfl)
end Go.Proofs.YtkiaodihfofbnaaGreatDoor.X
