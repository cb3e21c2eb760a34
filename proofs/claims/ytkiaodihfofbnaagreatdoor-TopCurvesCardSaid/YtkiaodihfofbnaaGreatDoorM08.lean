/- X448 of a secret number and a point's u is the u of that number times the point (the law TopCurves): part 9 of 22 of its proof: rounds of a range over a function, bits. No condition. -/
import Derived.Test.YtkiaodihfofbnaaGreatDoorM07
import Derived.RangeFuncKeeps
import Derived.RangeFuncFrom
import Derived.RangeFuncLeaves
import Derived.RangeFuncCalls
import Derived.LoopNIn
set_option linter.unusedVariables false
set_option linter.unusedSimpArgs false
namespace Go.Proofs.YtkiaodihfofbnaaGreatDoor.X
open Go Go.RowKit
set_option maxRecDepth 100000

/-- The widest fence, in a round or not. -/
def wideR (r : Option Nat) : Fence := { fn := fun _ => True, depth := none, alive := false, round := r }
theorem wideR_none : wideR none = Fence.wide := rfl
theorem wideR_room (r : Option Nat) (k : Nat) : (wideR r).room k := fun d h => by cases h
theorem callsIn_wideR {r : Option Nat} {n : Nat} {P : Program} {f : FuncId} {args : Array Value} {w : World} {R : Ending → World → Prop} (h : Calls P f args w R) : CallsIn (wideR r) n P f args w R := callsIn_wide.2 h
theorem rowsIn_wideR {r : Option Nat} {n : Nat} {P : Program} {row : String} {args : Array Value} {w : World} {R : Value → World → Prop} (h : Rows P row args w R) : RowsIn (wideR r) n P row args w R :=
  fun c cs _ => let ⟨v, w', hr, s⟩ := h c cs; ⟨v, w', hr, stepsIn_wide.2 s⟩

/-- An activation with deferred calls. -/
def wd (ds : List Deferred) (a : Act) : Act := { a with defers := ds }
theorem wd_eval (ds : List Deferred) (a : Act) : (wd ds a).eval = a.eval := funext fun x => by cases x <;> rfl
theorem wd_put (ds : List Deferred) (a : Act) (d : Option Tmp) (v : Value) : (wd ds a).put d v = wd ds (a.put d v) := by cases d <;> rfl
def isDefer : Op → Bool
  | .defer _ => true
  | _ => false
theorem isDefer_spec {o : Op} (h : isDefer o = false) : ∀ c, o ≠ .defer c := fun c e => by rw [e] at h; cases h

theorem wpOp_in {r : Option Nat} {n : Nat} {P : Program} {ops : Array Oper} {i : Nat} {rest : List Nat} {K : Act → World → Prop} {Q : Exit → Act → World → Prop} {a : Act} {w : World} {ds : List Deferred}
    (hnd : ∀ o, ops[i]? = some o → isDefer o.op = false) (h : wpOp P ops (fun _ _ _ => False) i K a w) (hKd : ∀ a w, K a w → a.defers = []) (hK : ∀ a w, K a w → wpOpsIn (wideR r) n P ops Q rest (wd ds a) w) : wpOpsIn (wideR r) n P ops Q (i :: rest) (wd ds a) w := by
  unfold wpOp at h
  unfold wpOpsIn
  cases ho : ops[i]? with
  | none => rw [ho] at h; exact hK a w h
  | some o =>
    rw [ho] at h
    simp only at h ⊢
    have hy : yielded ops (wd ds a).tmps = yielded ops a.tmps := rfl
    rw [hy]
    split at h
    · rename_i hw
      rw [if_pos hw]
      rcases h with h | ⟨_, _, _, hf⟩
      · refine ⟨fun _ _ => trivial, ?_⟩
        rw [Oper.semAt_eq _ _ _ (isDefer_spec (hnd o ho)), wd_eval]
        unfold Oper.wp at h
        generalize (execOp a.eval o).run P w = res at h ⊢
        cases res with
        | halt x w' => cases x <;> exact h.elim
        | ok nx w' =>
          cases nx with
          | value v =>
            show wpOpsIn _ _ _ _ _ _ ((wd ds a).put o.dst v) w'
            rw [wd_put]; exact hK _ _ h
          | skip =>
            show wpOpsIn _ _ _ _ _ _ ((wd ds a).put o.dst undef) w'
            rw [wd_put]; exact hK _ _ h
          | defer d =>
            have hd := hKd _ _ h
            cases hod : o.dst <;> rw [hod] at hd <;> simp [Act.put] at hd
          | enter f args =>
            refine ⟨fun hh => by simp [wideR] at hh, callsIn_wideR (Calls.mono h ?_)⟩
            intro e w'' he
            cases e with
            | returned v => simp only at he ⊢; rw [wd_put]; exact hK _ _ he
            | panicked c => exact he.elim
            | outgrown => obtain ⟨_, _, hf⟩ := he; exact hf.elim
          | row row args =>
            refine ⟨fun hh => by simp [wideR] at hh, rowsIn_wideR (Rows.mono h ?_)⟩
            intro v w'' he
            rw [wd_put]; exact hK _ _ he
          | _ => exact h.elim
      · exact hf.elim
    · rename_i hw
      rw [if_neg hw]
      refine ⟨fun _ _ => trivial, ?_⟩
      rw [wd_put]; exact hK _ _ h

/-- What a region comes to where nothing else than its end is allowed. -/
def nrm (K : Act → World → Prop) : Exit → Act → World → Prop
  | .normal => K
  | _ => fun _ _ => False
theorem nrm_lets {K : Act → World → Prop} (h : LetsOut (nrm K)) : False := by obtain ⟨_, _, hf⟩ := h; exact hf
theorem put_defers (a : Act) (d : Option Tmp) (v : Value) : (a.put d v).defers = a.defers := by cases d <;> rfl
theorem oper_next {P : Program} {o : Oper} {a : Act} {w : World} {next K : Act → World → Prop} (h : o.wp P a w next (nrm K)) : ∃ a' w', next a' w' ∧ (a'.defers = [] → a.defers = []) := by
  unfold Oper.wp at h
  generalize (execOp a.eval o).run P w = res at h
  cases res with
  | halt x w' => cases x <;> exact h.elim
  | ok nx w' =>
    cases nx with
    | value v => exact ⟨_, _, h, fun e => by rw [put_defers] at e; exact e⟩
    | skip => exact ⟨_, _, h, fun e => by rw [put_defers] at e; exact e⟩
    | defer d => exact ⟨_, _, h, fun e => by rw [put_defers] at e; cases e⟩
    | enter f args =>
      obtain ⟨e, w'', _, hr, _⟩ := h []
      cases e with
      | returned v => exact ⟨_, _, hr, fun e => by rw [put_defers] at e; exact e⟩
      | panicked c => exact hr.elim
      | outgrown => exact (nrm_lets hr).elim
    | row row args =>
      obtain ⟨v, w'', hr, _⟩ := h default []
      exact ⟨_, _, hr, fun e => by rw [put_defers] at e; exact e⟩
    | _ => exact h.elim
theorem wpOps_defers {P : Program} {ops : Array Oper} {K : Act → World → Prop} (hK : ∀ a w, K a w → a.defers = []) : ∀ (l : List Nat) (a : Act) (w : World), wpOps P ops (nrm K) l a w → a.defers = []
  | [], a, w, h => hK a w h
  | i :: l, a, w, h => by
    rw [wpOps_cons] at h
    unfold wpOp at h
    split at h
    · exact wpOps_defers hK l a w h
    · split at h
      · rcases h with h | ⟨_, h⟩
        · obtain ⟨a', w', h', hd⟩ := oper_next h
          exact hd (wpOps_defers hK l a' w' h')
        · exact (nrm_lets h).elim
      · have := wpOps_defers hK l _ w h
        rw [put_defers] at this; exact this
theorem wpOps_in {r : Option Nat} {n : Nat} {P : Program} {ops : Array Oper} {K : Act → World → Prop} {Q : Exit → Act → World → Prop} {ds : List Deferred} (hnd : ∀ (i : Nat) (o : Oper), ops[i]? = some o → isDefer o.op = false) (hKd : ∀ a w, K a w → a.defers = [])
    (hQ : ∀ a w, K a w → Q .normal (wd ds a) w) : ∀ (l : List Nat) (a : Act) (w : World), wpOps P ops (nrm K) l a w → wpOpsIn (wideR r) n P ops Q l (wd ds a) w
  | [], a, w, h => hQ a w h
  | i :: l, a, w, h => by
    rw [wpOps_cons] at h
    refine wpOp_in (hnd i) (K := wpOps P ops (nrm K) l) ?_ (fun a w h => wpOps_defers hKd l a w h) (fun a w h => wpOps_in hnd hKd hQ l a w h)
    unfold wpOp at h ⊢
    split
    · rename_i e; rw [e] at h; exact h
    · rename_i o e
      rw [e] at h
      simp only at h
      split
      · rename_i hw
        rw [if_pos hw] at h
        rcases h with h | ⟨_, h⟩
        · left
          unfold Oper.wp at h ⊢
          generalize (execOp a.eval o).run P w = res at h ⊢
          cases res with
          | halt x w' => cases x <;> exact h
          | ok nx w' =>
            cases nx with
            | enter f args =>
              refine Calls.mono h fun e w'' he => ?_
              cases e with
              | returned v => exact he
              | panicked c => exact he
              | outgrown => exact (nrm_lets he).elim
            | _ => exact h
        · exact (nrm_lets h).elim
      · rename_i hw
        rw [if_neg hw] at h
        exact h

def noDefL (ops : List Oper) : Bool := ops.all fun o => !isDefer o.op
theorem noDefL_spec {ops : Array Oper} (h : noDefL ops.toList = true) (i : Nat) (o : Oper) (ho : ops[i]? = some o) : isDefer o.op = false := by
  have := List.all_eq_true.1 h o (by rw [← Array.getElem?_toList] at ho; exact List.mem_of_getElem? ho)
  simpa using this
section
variable {P : Program} {sp : Sp} {sy : Md} {w0 : Base} {Q : Exit → Act → World → Prop} {r : Option Nat} {m : Nat} {ds : List Deferred}
theorem regionA_in (hm : P.follows .mixedOrders = true) (hsp : SpOk P sp) {id : Nat} {draw : Bool} {ops : Array Oper} (hnd : noDefL ops.toList = true) {st st' : St} (h : regionA P sp sy draw ops.toList st = some st') (hob : Met st'.ob) {ρ : Rho} {a : Act} {w : World} (hs : StOk w0 ρ st a w)
    (hk : ∀ ρ' a' w', Next ρ ρ' st st' → StOk w0 ρ' st' a' w' → Q .normal (wd ds a') w') : (Code.region id ops draw).wpIn (wideR r) m P Q (wd ds a) w := by
  have key : ∀ (K : Act → World → Prop), (∀ a' w', K a' w' ↔ ∃ ρ', Next ρ ρ' st st' ∧ StOk w0 ρ' st' a' w') → (∀ a w, K a w → a.defers = []) ∧ (∀ a w, K a w → Q .normal (wd ds a) w) := fun K hK =>
    ⟨fun a w h => by obtain ⟨ρ', _, h⟩ := (hK a w).1 h; exact h.rel.defers, fun a w h => by obtain ⟨ρ', h1, h2⟩ := (hK a w).1 h; exact hk ρ' a w h1 h2⟩
  obtain ⟨K, hK⟩ : ∃ K : Act → World → Prop, ∀ a' w', K a' w' ↔ ∃ ρ', Next ρ ρ' st st' ∧ StOk w0 ρ' st' a' w' := ⟨_, fun _ _ => Iff.rfl⟩
  obtain ⟨hKd, hKQ⟩ := key K hK
  unfold regionA at h
  cases draw with
  | false =>
    simp only at h
    split at h
    · rename_i T H O hr
      obtain rfl := Option.some.inj h
      refine wpIn_region (wpOps_in (noDefL_spec hnd) hKd hKQ _ a w ?_)
      have := runSeq_sound (w0 := w0) (Q := nrm K) hsp ops.toList 0 st.T T st.H H st.ob O ρ a w rfl hr hob hs.bnd hs.rel hs.ref fun ρ' a' w' h1 h2 h3 h4 h5 h6 => (hK a' w').2 ⟨ρ', ⟨h1, h3, h4⟩, ⟨h2, h5, h6⟩⟩
      rw [Array.toArray_toList] at this
      rw [List.range_eq_range', ← Array.length_toList]
      exact this
    · cases h
  | true =>
    simp only at h
    split at h
    · rename_i recs T H hr
      split at h
      · rename_i hc
        rw [Bool.and_eq_true] at hc
        obtain rfl := Option.some.inj h
        refine wpIn_region_draw fun t => wpOps_in (noDefL_spec hnd) hKd hKQ _ a _ ?_
        simp only [Region.schedule, hm, Bool.true_or, if_true]
        refine wpAny_sound ops.size t _ a _ ?_
        obtain ⟨hlen, hTl, hHl, _⟩ := runRec_spec _ _ _ _ _ _ _ hr
        have hR : Ref w0 ρ { w with drawn := w.drawn + 1 } (lk st.H) := hs.ref.later ⟨rfl, rfl, rfl, Nat.le_refl _, fun _ _ => rfl⟩
        have hf : ∀ i, (Array.replicate ops.size false).getD i false = false := fun i => by
          rw [Array.getD_eq_getD_getElem?, Array.getElem?_replicate]
          split <;> rfl
        have e1 : ∀ {β : Type} (wr : Rec → Option β) (x : Option β), lastG (fun i => (Array.replicate ops.size false).getD i false) wr 0 recs x = x := fun wr x => lastG_none _ _ _ fun j r _ _ => hf _
        have := wpAny_draw (P := P) hsp hr (Met.left hob) hc.1 hs.bnd (w0 := w0) (ρ0 := ρ) (Q := nrm K) (fun ρ' a' w' h1 h2 h3 => (hK a' w').2 ⟨ρ', ⟨h1, hTl, hHl⟩, ⟨bndB_spec hc.2, h2, h3⟩⟩) ops.size (Array.replicate ops.size false) ρ a { w with drawn := w.drawn + 1 } (by simp)
          (fun j o e hj => by simp only [hf] at hj; cases hj)
          (by
            refine Nat.le_trans List.countP_le_length ?_
            simp)
          (by
            have e2 : (fun t => lastG (fun i => (Array.replicate ops.size false).getD i false) (wrT t) 0 recs (lk st.T t)) = lk st.T := funext fun t => e1 _ _
            rw [e2]; exact hs.rel)
          (by
            have e2 : (fun t => lastG (fun i => (Array.replicate ops.size false).getD i false) (wrH t) 0 recs (lk st.H t)) = lk st.H := funext fun t => e1 _ _
            rw [e2]; exact hR)
          (fun _ _ => rfl)
        rw [Array.toArray_toList] at this
        exact this
      · cases h
    · cases h


def noDefC : Code → Bool
  | .region _ ops _ => noDefL ops.toList
  | .seq a b => noDefC a && noDefC b
  | .cond _ a b => noDefC a && noDefC b
  | .block _ a => noDefC a
  | .loop a => noDefC a
  | .skip => true
  | .exit _ => true
  | .ret => true
  | .label _ => true
  | _ => false
theorem exec_in (hm : P.follows .mixedOrders = true) (hsp : SpOk P sp) : ∀ (n : Nat) (c : Code) (st st' : St) (ex : Ex) (ρ : Rho) (a : Act) (w : World) (Q : Exit → Act → World → Prop), noDefC c = true → exec P sp sy n c st = some (ex, st') → Met st'.ob → StOk w0 ρ st a w →
    (∀ ρ' a' w', Next ρ ρ' st st' → StOk w0 ρ' st' a' w' → Q ex.out (wd ds a') w') → c.wpIn (wideR r) m P Q (wd ds a) w := by
  intro n
  induction n with
  | zero => intro c st st' ex ρ a w Q _ h; cases h
  | succ n ih =>
    intro c st st' ex ρ a w Q hnd h hob hs hk
    rw [exec.eq_def] at h
    simp only at h
    split at h
    · obtain ⟨rfl, rfl⟩ := Prod.mk.inj (Option.some.inj h)
      exact wpIn_skip (hk ρ a w (Next.refl _ _) hs)
    · split at h
      · rename_i st1 hr
        obtain ⟨rfl, rfl⟩ := Prod.mk.inj (Option.some.inj h)
        exact regionA_in hm hsp hnd hr hob hs hk
      · cases h
    · -- seq
      rename_i x y
      obtain ⟨nd1, nd2⟩ : noDefC x = true ∧ noDefC y = true := by simpa [noDefC] using hnd
      refine wpIn_seq ?_
      split at h
      · rename_i st1 h1
        refine ih x st st1 .normal ρ a w _ nd1 h1 (exec_ob _ _ _ _ _ h hob) hs fun ρ1 a1 w1 n1 s1 => ?_
        exact ih y st1 st' ex ρ1 a1 w1 _ nd2 h hob s1 fun ρ2 a2 w2 n2 s2 => hk ρ2 a2 w2 (n1.trans n2) s2
      · rename_i hne
        refine ih x st st' ex ρ a w _ nd1 h hob hs fun ρ1 a1 w1 n1 s1 => ?_
        cases ex with
        | normal => exact absurd h (hne st')
        | exit id => exact hk ρ1 a1 w1 n1 s1
        | ret => exact hk ρ1 a1 w1 n1 s1
    · -- cond
      rename_i c x y
      obtain ⟨nd1, nd2⟩ : noDefC x = true ∧ noDefC y = true := by simpa [noDefC] using hnd
      split at h
      · rename_i hc
        exact wpIn_cond_true (by rw [wd_eval]; exact evalT_sound hs.rel hc) (ih x st st' ex ρ a w Q nd1 h hob hs hk)
      · rename_i hc
        exact wpIn_cond_false (by rw [wd_eval]; exact evalT_sound hs.rel hc) (ih y st st' ex ρ a w Q nd2 h hob hs hk)
      · cases h
    · -- block
      rename_i id c
      refine wpIn_block ?_
      split at h
      · rename_i id' st1 h1
        have hob1 : Met st1.ob := by
          split at h <;> (obtain ⟨_, rfl⟩ := Prod.mk.inj (Option.some.inj h); exact hob)
        refine ih c st st1 (.exit id') ρ a w _ hnd h1 hob1 hs fun ρ1 a1 w1 n1 s1 => ?_
        split at h
        · rename_i e
          obtain ⟨rfl, rfl⟩ := Prod.mk.inj (Option.some.inj h)
          show (if id' = id then Q .normal (wd ds a1) w1 else Q (.exit id') (wd ds a1) w1)
          rw [if_pos e]
          exact hk ρ1 a1 w1 n1 s1
        · rename_i e
          obtain ⟨rfl, rfl⟩ := Prod.mk.inj (Option.some.inj h)
          show (if id' = id then Q .normal (wd ds a1) w1 else Q (.exit id') (wd ds a1) w1)
          rw [if_neg e]
          exact hk ρ1 a1 w1 n1 s1
      · rename_i hne
        refine ih c st st' ex ρ a w _ hnd h hob hs fun ρ1 a1 w1 n1 s1 => ?_
        cases ex with
        | normal => exact hk ρ1 a1 w1 n1 s1
        | exit id' => exact absurd h (hne id' st')
        | ret => exact hk ρ1 a1 w1 n1 s1
    · -- loop
      rename_i c
      have key : ∀ (k : Nat) (st st' : St) (ex : Ex) (ρ : Rho) (a : Act) (w : World), loopX (exec P sp sy n c) k st = some (ex, st') → Met st'.ob → StOk w0 ρ st a w →
          (∀ ρ' a' w', Next ρ ρ' st st' → StOk w0 ρ' st' a' w' → Q ex.out (wd ds a') w') → Code.roundsIn (wideR r) m P c Q k (wd ds a) w := by
        intro k
        induction k with
        | zero => intro st st' ex ρ a w h; cases h
        | succ k ihm =>
          intro st st' ex ρ a w h hob hs hk
          rw [loopX] at h
          rw [roundsIn_succ]
          split at h
          · rename_i st1 h1
            refine ih c st st1 .normal ρ a w _ hnd h1 (loopX_ob (fun st st' e h hm => exec_ob _ _ _ _ _ h hm) _ _ _ _ h hob) hs fun ρ1 a1 w1 n1 s1 => ?_
            exact ihm st1 st' ex ρ1 a1 w1 h hob s1 fun ρ2 a2 w2 n2 s2 => hk ρ2 a2 w2 (n1.trans n2) s2
          · rename_i hne
            refine ih c st st' ex ρ a w _ hnd h hob hs fun ρ1 a1 w1 n1 s1 => ?_
            cases ex with
            | normal => exact absurd h (hne st')
            | exit id => exact hk ρ1 a1 w1 n1 s1
            | ret => exact hk ρ1 a1 w1 n1 s1
      exact wpIn_loop_rounds n (key n st st' ex ρ a w h hob hs hk)
    · obtain ⟨rfl, rfl⟩ := Prod.mk.inj (Option.some.inj h)
      exact wpIn_exit (hk ρ a w (Next.refl _ _) hs)
    · obtain ⟨rfl, rfl⟩ := Prod.mk.inj (Option.some.inj h)
      exact wpIn_ret (hk ρ a w (Next.refl _ _) hs)
    · obtain ⟨rfl, rfl⟩ := Prod.mk.inj (Option.some.inj h)
      exact wpIn_label (hk ρ a w (Next.refl _ _) hs)
    · cases hnd
    · cases h
end
end Go.Proofs.YtkiaodihfofbnaaGreatDoor.X
namespace Go.Proofs.YtkiaodihfofbnaaGreatDoor.X
open Go Go.RowKit
set_option maxRecDepth 100000

theorem toA_in {P : Program} {sp : Sp} (hm : P.follows .mixedOrders = true) (hsp : SpOk P sp) {sy : Md} {n : Nat} {c : Code} (hnd : noDefC c = true) {st st' : St} {ex : Ex} {ts ks : List Nat} {hl : Nat} (h : toA P sp sy n c st ts ks hl = some (ex, st')) (hob : Met st'.ob)
    {w0 : Base} {ρ : Rho} {a : Act} {w : World} (hs : StOk w0 ρ st a w) {r : Option Nat} {m : Nat} {ds : List Deferred} {Q : Exit → Act → World → Prop} (hk : ∀ ρ' a' w', (∀ k, k < st.H.length → ρ' k = ρ k) → StOk w0 ρ' st' a' w' → Q ex.out (wd ds a') w') : c.wpIn (wideR r) m P Q (wd ds a) w := by
  unfold toA at h
  split at h
  · rename_i ex' s hx
    split at h
    · rename_i hb
      obtain ⟨rfl, rfl⟩ := Prod.mk.inj (Option.some.inj h)
      exact exec_in hm hsp n c st s _ ρ a w Q hnd hx hob hs fun ρ' a' w' hn hs' => hk ρ' a' w' hn.agree (hs'.cut hb)
    · cases h
  · cases h
theorem wd_nil {a : Act} (h : a.defers = []) : wd [] a = a := by cases a; cases h; rfl

theorem runSeq_preIn {P : Program} {sp : Sp} (hsp : SpOk P sp) {sy : Md} {ops : List Oper} (hnd : noDefL ops = true) {Q : Exit → Act → World → Prop} {w0 : Base} {r : Option Nat} {m : Nat} {ds : List Deferred} : ∀ (l : List Oper) (j : Nat) (l2 : List Oper) (T T' : List (Option AV)) (H H' : List (Option Blk)) (O O' : List Prop) (ρ : Rho) (a : Act) (w : World), ops.drop j = l ++ l2 →
    runSeq P sp sy ops l T H O = some (T', H', O') → Met O' → Bnd T H → Rel ρ a T.length (lk T) → Ref w0 ρ w (lk H) →
    (∀ ρ' a' w', (∀ k, k < H.length → ρ' k = ρ k) → StOk w0 ρ' ⟨T', H', O'⟩ a' w' → wpOpsIn (wideR r) m P ops.toArray Q (List.range' (j + l.length) l2.length) (wd ds a') w') → wpOpsIn (wideR r) m P ops.toArray Q (List.range' j (l ++ l2).length) (wd ds a) w
  | [], j, l2, T, T', H, H', O, O', ρ, a, w, _, h, hob, hb, hr, hR, hk => by
    rw [runSeq] at h
    simp only [Option.some.injEq, Prod.mk.injEq] at h
    obtain ⟨rfl, rfl, _⟩ := h
    exact hk ρ a w (fun _ _ => rfl) ⟨hb, hr, hR⟩
  | o :: l, j, l2, T, T', H, H', O, O', ρ, a, w, hdrop, h, hob, hb, hr, hR, hk => by
    rw [runSeq] at h
    split at h
    · rename_i rc hs
      split at h
      · rename_i hc
        rw [Bool.and_eq_true, Bool.and_eq_true] at hc
        have hd := dstOk_spec hc.1.1
        have hj : ops[j]? = some o := by
          have := congrArg (fun l => l[0]?) hdrop
          simpa using this
        rw [List.cons_append, List.length_cons, List.range'_succ]
        refine wpOp_in (K := fun a' w' => ∃ ρ', (∀ k, k ≠ H.length → ρ' k = ρ k) ∧ Rel ρ' a' T.length (updT (lk T) rc) ∧ Ref w0 ρ' w' (updH (lk H) rc.eff)) (fun o' ho' => by
          have := noDefL_spec (ops := ops.toArray) (by rw [List.toList_toArray]; exact hnd) j o' ho'
          exact this) ?_ (fun a w ⟨_, _, h, _⟩ => h.defers) ?_
        · exact stepOp_sound hsp hj hs (runSeq_ob l _ _ _ _ _ _ h hob).left (fun _ _ => rfl) (fun _ _ => rfl) (lk_none (Nat.le_refl _)) (fun t v hv hm => Nat.lt_irrefl _ (hb.tv t v hv _ hm)) (fun k b hv hm => Nat.lt_irrefl _ (hb.hv k b hv _ hm)) hr hR (fun d he => hd d ((stepOp_dst hs).trans he)) fun ρ' a' w' h1 h2 h3 => ⟨ρ', h1, h2, h3⟩
        · rintro a' w' ⟨ρ', h1, h2, h3⟩
          refine runSeq_preIn (w0 := w0) hsp hnd l (j + 1) l2 (setT T rc) T' (setH H rc.eff) H' _ O' ρ' a' w' ?_ h hob (hb.upd hd hc.1.2 hc.2) ?_ ?_ fun ρ'' a'' w'' e1 e2 => ?_
          · rw [← List.drop_drop, hdrop]; rfl
          · rw [length_setT, lk_setT hd]; exact h2
          · rw [lk_setH]; exact h3
          · have := hk ρ'' a'' w'' (fun k hk => by rw [e1 k (Nat.lt_of_lt_of_le hk (length_setH _ _)), h1 k (by omega)]) e2
            rw [List.length_cons, show j + (l.length + 1) = j + 1 + l.length by omega] at this
            exact this
      · cases h
    · cases h

theorem region_op_in {P : Program} {sp : Sp} (hsp : SpOk P sp) {sy : Md} {w0 : Base} {r : Option Nat} {m : Nat} {ds : List Deferred} {Q : Exit → Act → World → Prop} {id : Nat} {ops : Array Oper} (hnd : noDefL ops.toList = true) (q : Nat) {o : Oper} (ho : ops.toList[q]? = some o) (hg : o.guard = none)
    {st : St} {T1 : List (Option AV)} {H1 : List (Option Blk)} {O1 : List Prop} (h1 : runSeq P sp sy ops.toList (ops.toList.take q) st.T st.H st.ob = some (T1, H1, O1)) (hob : Met O1) {ρ : Rho} {a : Act} {w : World} (hs : StOk w0 ρ st a w)
    (hop : ∀ ρ1 a1 w1, (∀ k, k < st.H.length → ρ1 k = ρ k) → StOk w0 ρ1 ⟨T1, H1, O1⟩ a1 w1 → o.wpIn (wideR r) m P (wd ds a1) w1 (wpOpsIn (wideR r) m P ops Q (List.range' (q + 1) (ops.size - (q + 1)))) Q) : (Code.region id ops false).wpIn (wideR r) m P Q (wd ds a) w := by
  refine wpIn_region ?_
  have hq : q < ops.toList.length := (List.getElem?_eq_some_iff.1 ho).1
  have hsplit : ops.toList.drop 0 = ops.toList.take q ++ (o :: ops.toList.drop (q + 1)) := by
    have : o :: ops.toList.drop (q + 1) = ops.toList.drop q := by
      rw [← List.getElem_cons_drop hq]
      rw [(List.getElem?_eq_some_iff.1 ho).2]
    rw [this, List.take_append_drop]; rfl
  have key := runSeq_preIn (w0 := w0) (Q := Q) (r := r) (m := m) (ds := ds) hsp hnd (ops.toList.take q) 0 (o :: ops.toList.drop (q + 1)) st.T T1 st.H H1 st.ob O1 ρ a w hsplit h1 hob hs.bnd hs.rel hs.ref fun ρ1 a1 w1 e1 s1 => ?_
  · rw [← hsplit, List.drop_zero, Array.toArray_toList] at key
    rw [List.range_eq_range', ← Array.length_toList]
    exact key
  · rw [Array.toArray_toList, List.length_cons, List.range'_succ]
    have hlt : (ops.toList.take q).length = q := by rw [List.length_take]; omega
    rw [Nat.zero_add, hlt]
    unfold wpOpsIn
    have hoq : ops[q]? = some o := by rw [← Array.getElem?_toList]; exact ho
    simp only [hoq]
    have hw : Region.wanted o (yielded ops (wd ds a1).tmps) = true := by unfold Region.wanted; rw [hg]
    rw [if_pos hw]
    have h2 : (ops.toList.drop (q + 1)).length = ops.size - (q + 1) := by rw [List.length_drop, Array.length_toList]
    rw [h2]
    exact hop ρ1 a1 w1 e1 s1
theorem restA_in {P : Program} {sp : Sp} (hsp : SpOk P sp) {sy : Md} {q : Nat} {ops : Array Oper} (hnd : noDefL ops.toList = true) {st st' : St} {ts ks : List Nat} {hl : Nat} (h : restA P sp sy q ops.toList st ts ks hl = some st') (hob : Met st'.ob)
    {w0 : Base} {ρ : Rho} {a : Act} {w : World} (hs : StOk w0 ρ st a w) {r : Option Nat} {m : Nat} {ds : List Deferred} {Q : Exit → Act → World → Prop} (hk : ∀ ρ' a' w', (∀ k, k < st.H.length → ρ' k = ρ k) → StOk w0 ρ' st' a' w' → Q .normal (wd ds a') w') :
    wpOpsIn (wideR r) m P ops Q (List.range' q (ops.size - q)) (wd ds a) w := by
  unfold restA at h
  split at h
  · rename_i T H O hx
    split at h
    · rename_i hb
      obtain rfl := Option.some.inj h
      have := runSeq_preIn (w0 := w0) (Q := Q) (r := r) (m := m) (ds := ds) hsp hnd (ops.toList.drop q) q [] st.T T st.H H st.ob O ρ a w (by rw [List.append_nil]) hx hob hs.bnd hs.rel hs.ref fun ρ' a' w' h1 h2 => hk ρ' a' w' h1 (StOk.cut h2 hb)
      rw [Array.toArray_toList, List.append_nil, List.length_drop, Array.length_toList] at this
      exact this
    · cases h
  · cases h
/-- A value is put where it belongs. -/
theorem StOk.putV {w0 : Base} {ρ : Rho} {T : List (Option AV)} {H : List (Option Blk)} {O : List Prop} {a : Act} {w : World} (hs : StOk w0 ρ ⟨T, H, O⟩ a w) {d : Nat} (hd : d < T.length) {v : Value} :
    StOk w0 ρ ⟨setT T ⟨some d, .g (.a (.v v)), [], [], []⟩, H, O⟩ (a.put (some d) v) w := by
  have hdl : ∀ d', (⟨some d, AV.g (.a (.v v)), [], [], []⟩ : Rec).dst = some d' → d' < T.length := fun d' h => by obtain rfl := Option.some.inj h; exact hd
  refine ⟨?_, ?_, hs.ref⟩
  · exact hs.bnd.upd (r := ⟨some d, .g (.a (.v v)), [], [], []⟩) hdl rfl rfl
  · show Rel ρ _ (setT T ⟨some d, .g (.a (.v v)), [], [], []⟩).length (lk (setT T ⟨some d, .g (.a (.v v)), [], [], []⟩))
    rw [length_setT, lk_setT hdl]
    exact Rel.put (kn := H.length) (v := .g (.a (.v v))) hs.rel (fun _ _ => rfl) (fun t u hu hm' => Nat.lt_irrefl _ (hs.bnd.tv t u hu _ hm')) (fun d' h => hdl d' h)

/-! ### The iterator -/
theorem fun50 : Fun Tryz.prog 50 Tryz.f50 := ⟨Tryz.func50, by kernel_rfl, by kernel_rfl⟩
abbrev yV (l : Nat) : AV := .g (.a (.v (.func (.yield l) #[] #[])))
abbrev h50 (zs : List Int) (cap : Option Nat) (t0 : TypeId) (o0 : Bool) : List (Option Blk) := [some ⟨[.s 1 113 cap], t0, o0, false⟩, some ⟨[.r .i64 zs], 3, true, false⟩]
/-- What the iterator reads. -/
def Q50 (zs : List Int) (cap : Option Nat) (t0 : TypeId) (o0 : Bool) (ρ : Rho) (w : World) : Prop := ∀ k b, lk (h50 zs cap t0 o0) k = some b → Holds ρ w k b ∧ (ρ k).1 < w.heap.size
abbrev T50 (l : Nat) (i : Int) : List (Option AV) := mkA [(0, yV l), (1, ptr 0), (3, I1 .i64 i)] 19 0
theorem st50 {zs : List Int} {cap : Option Nat} {t0 : TypeId} {o0 : Bool} {ρ : Rho} {w : World} (h : Q50 zs cap t0 o0 ρ w) : Ref w ρ w (lk (h50 zs cap t0 o0)) := read_ref rfl h
theorem Q50.of_ref {zs : List Int} {cap : Option Nat} {t0 : TypeId} {o0 : Bool} {ρ : Rho} {w0 : Base} {w : World} (h : Ref w0 ρ w (lk (h50 zs cap t0 o0))) : Q50 zs cap t0 o0 ρ w := fun k b hk => ⟨h.holds k b hk, h.lt hk⟩
noncomputable def loop50 : Code := match tailS 1 ((Tryz.f50.body).getD .skip) with
  | .block _ (.loop c) => c
  | _ => .skip
/-- What the k-th round is handed. -/
def enc50 (zs : List Int) (k : Nat) : Array Value := #[.int .i64 (112 - (k : Int)), .int .i64 (zs.getD (112 - k) 0)]
theorem grown_of_below {w w' : World} (h : Below w.heap.size w w') : w.grownBy w' none := ⟨h.os, h.tape, h.output, h.size, fun k hk _ => h.block k hk⟩
theorem abide {β : Type} {B : Nat} {J : β → World → Prop} (hJ : AbidesFrom B J) {s : β} {w w' : World} (h : J s w) (hb : Below w.heap.size w w') : J s w' := hJ s w w' none h (grown_of_below hb) fun r e => by cases e
theorem wpIn_loop_up {F : Fence} {m : Nat} {P : Program} {Q : Exit → Act → World → Prop} {c : Code} (n : Nat) (I : Nat → Act → World → Prop) {a : Act} {w : World} (h0 : I 0 a w) (step : ∀ i, i < n → ∀ a w, I i a w → c.wpIn F m P (Exit.then (I (i + 1)) Q) a w)
    (last : ∀ a w, I n a w → c.wpIn F m P (Exit.then (fun _ _ => False) Q) a w) : (Code.loop c).wpIn F m P Q a w := by
  have key : ∀ d i, i + d = n → ∀ a w, I i a w → Code.roundsIn F m P c Q (d + 1) a w := by
    intro d
    induction d with
    | zero =>
      intro i hi a w h
      have : i = n := by omega
      subst this
      exact last a w h
    | succ d ih =>
      intro i hi a w h
      refine wpIn_mono (step i (by omega) a w h) fun e a' w' hq => ?_
      cases e with
      | normal => exact ih (i + 1) (by omega) a' w' hq
      | exit id => exact hq
      | goto l => exact hq
      | ret => exact hq
      | panic c => exact hq
      | outgrown => exact hq
  exact wpIn_loop_rounds (n + 1) (key n 0 (by omega) a w h0)
theorem Q50.congr {zs : List Int} {cap : Option Nat} {t0 : TypeId} {o0 : Bool} {ρ ρ' : Rho} {w : World} (h0 : ρ' 0 = ρ 0) (h1 : ρ' 1 = ρ 1) (h : Q50 zs cap t0 o0 ρ' w) : Q50 zs cap t0 o0 ρ w := fun k b hk => by
  have hh := h k b hk
  match k, hk with
  | 0, hk =>
    obtain rfl := Option.some.inj hk
    rw [h0] at hh
    obtain ⟨⟨rest, hr, hx⟩, hlt⟩ := hh
    refine ⟨⟨rest, hr, ?_⟩, hlt⟩
    rw [← h0, hx, flat_congr (ρ := ρ') (ρ' := ρ) (fun j hj => ?_)]
    have : j = 1 := by simpa [idsA, At.ids] using hj
    rw [this, h1]
  | 1, hk =>
    obtain rfl := Option.some.inj hk
    rw [h1] at hh
    obtain ⟨⟨rest, hr, hx⟩, hlt⟩ := hh
    exact ⟨⟨rest, hr, by rw [← h1, hx]; rfl⟩, hlt⟩
noncomputable def ops50 : Array Oper := match tailS 1 loop50 with
  | .seq (.block _ (.seq (.region _ ops _) _)) _ => ops
  | _ => #[]
theorem back_stops {zs : List Int} (hz : zs.length = 113) (cap : Option Nat) (t0 : TypeId) (o0 : Bool) (ρ : Rho) (n : Nat) (w : World) (hq : ∀ W, Below w.heap.size w W → Q50 zs cap t0 o0 ρ W) :
    SeqStopsK (wideR none) n Tryz.prog 50 #[.pointer (some ⟨(ρ 0).1, 0, none⟩)] (enc50 zs) (fun A B => Q50 zs cap t0 o0 ρ A → Q50 zs cap t0 o0 ρ B) (fun xs => xs = List.range 113) (fun _ => True) 113 w := by
  intro l J Jx W hW hJ hJx hY h0
  refine callsIn_of_wp fun50.at_ (c := (Tryz.f50.body).getD .skip) rfl trivial ?_ rfl
  have s0 : StOk W ρ ⟨startT Tryz.f50 [yV l, ptr 0], h50 zs cap t0 o0, []⟩ _ W := ⟨bndB_spec (by kernel_rfl), startT_rel ρ Tryz.f50 [yV l, ptr 0], st50 (hq W hW)⟩
  change Code.wpIn (wideR none) n Tryz.prog _ _ (wd [] ⟨argsV ρ [yV l, ptr 0] ++ Array.replicate (Tryz.f50.ntmps - (argsV ρ [yV l, ptr 0]).size) undef, []⟩) W
  refine wpIn_seq ?_
  refine toA_in (sy := ⟨false, []⟩) (n := 20) (ts := [0, 1, 3]) (ks := [0, 1]) (hl := 2) (ex := .normal) (st' := ⟨T50 l 112, h50 zs cap t0 o0, []⟩) hm spOk_nil (by kernel_rfl) (by kernel_rfl) met0 s0 fun ρ1 a1 W1 hρ1 s1 => ?_
  have hab : ∀ {pre : List Nat} {A B : World} {ρ' : Rho} {H : View}, J pre A → Ref A ρ' B H → J pre B := fun h hr => abide hJ h hr.below
  refine wpIn_block (wpIn_loop_up 113 (fun k a W1 => ∃ a2 ρ1, a = wd [] a2 ∧ ρ1 0 = ρ 0 ∧ ρ1 1 = ρ 1 ∧ J (List.range k) W1 ∧ StOk W1 ρ1 ⟨T50 l (112 - (k : Int)), h50 zs cap t0 o0, []⟩ a2 W1) ⟨a1, ρ1, rfl, hρ1 0 (by show 0 < 2; decide), hρ1 1 (by show 1 < 2; decide), hab h0 s1.ref, ?_⟩ ?_ ?_)
  · rw [show (112 : Int) - ((0 : Nat) : Int) = 112 from rfl]
    exact ⟨s1.bnd, s1.rel, read_ref rfl fun k b hk => ⟨s1.ref.holds k b hk, s1.ref.lt hk⟩⟩
  · rintro k hk a W2 ⟨a2, ρ2, rfl, hr0, hr1, hJ2, s2⟩
    have hik : (112 : Int) - (k : Int) = ((112 - k : Nat) : Int) := by omega
    refine wpIn_seq ?_
    refine toA_in (sy := ⟨true, [(8, .bool true)]⟩) (n := 20) (ts := [0, 1, 3]) (ks := [0, 1]) (hl := 2) (ex := .normal) (st' := ⟨T50 l (112 - (k : Int)), h50 zs cap t0 o0, [Value.bool (decide ((112 - (k : Int)) ≥ 0)) = Value.bool true]⟩) hm spOk_nil (by kernel_rfl) (by kernel_rfl) (fun p hp => by rw [List.mem_singleton.1 hp, decide_eq_true (by omega)]) s2 fun ρ3 a3 W3 hρ3 s3 => ?_
    have hJ3 : J (List.range k) W3 := hab hJ2 s3.ref
    have hQ3 : Q50 zs cap t0 o0 ρ W3 := (Q50.of_ref s3.ref).congr ((hρ3 0 (by show 0 < 2; decide)).trans hr0) ((hρ3 1 (by show 1 < 2; decide)).trans hr1)
    have hv : zs.getD ((112 - (k : Int)).toNat * 1) 0 = zs.getD (112 - k) 0 := by rw [hik, Int.toNat_natCast, Nat.mul_one]
    refine wpIn_seq (wpIn_block (wpIn_seq ?_))
    refine region_op_in (sy := ⟨true, []⟩) spOk_nil (by kernel_rfl) 6 rfl rfl (st := ⟨T50 l (112 - (k : Int)), h50 zs cap t0 o0, []⟩)
      (T1 := mkA [(0, yV l), (1, ptr 0), (3, I1 .i64 (112 - (k : Int))), (11, yV l), (12, I1 .i64 (112 - (k : Int))), (13, .g (.a (.s 1 113 cap))), (14, I1 .i64 (112 - (k : Int))), (15, .g (.a (.p 1 ((112 - (k : Int)).toNat * 1)))), (16, I1 .i64 (zs.getD ((112 - (k : Int)).toNat * 1) 0))] 19 0)
      (H1 := h50 zs cap t0 o0) (O1 := [(112 - (k : Int)).toNat * 1 < zs.length, 0 ≤ (112 - (k : Int)) ∧ (112 - (k : Int)) < ((113 : Nat) : Int)]) (by kernel_rfl) (fun p hp => by
        simp only [List.mem_cons, List.not_mem_nil, or_false] at hp
        rcases hp with rfl | rfl <;> omega) ⟨s3.bnd, s3.rel, s3.ref⟩ fun ρ4 a4 W4 hρ4 s4 => ?_
    have hJ4 : J (List.range k) W4 := hab hJ2 s4.ref
    have hQ4 : Q50 zs cap t0 o0 ρ W4 := (Q50.of_ref s4.ref).congr ((hρ4 0 (by show 0 < 2; decide)).trans ((hρ3 0 (by show 0 < 2; decide)).trans hr0)) ((hρ4 1 (by show 1 < 2; decide)).trans ((hρ3 1 (by show 1 < 2; decide)).trans hr1))
    obtain ⟨fn, tmps, assign, bd, hy, hR⟩ := hY (List.range k) k W4 hJ4 (by rw [List.length_range]; exact hk)
    have e11 : a4.eval (.tmp 11) = .func (.yield l) #[] #[] := evalT_sound s4.rel (x := .tmp 11) (v := yV l) rfl
    have e12 : a4.eval (.tmp 12) = .int .i64 (112 - (k : Int)) := evalT_sound s4.rel (x := .tmp 12) (v := I1 .i64 (112 - (k : Int))) rfl
    have e16 : a4.eval (.tmp 16) = .int .i64 (zs.getD ((112 - (k : Int)).toNat * 1) 0) := evalT_sound s4.rel (x := .tmp 16) (v := I1 .i64 (zs.getD ((112 - (k : Int)).toNat * 1) 0)) rfl
    have hik' : (112 : Int) - ((k + 1 : Nat) : Int) = 112 - (k : Int) - 1 := by omega
    have hbk : List.range (k + 1) = List.range k ++ [k] := List.range_succ
    unfold enc50 at hy
    rw [← hv] at hy
    generalize hve : zs.getD ((112 - (k : Int)).toNat * 1) 0 = v at hy e16 s4
    refine ⟨fun _ _ => trivial, ?_⟩
    rw [Oper.semAt_eq _ _ _ (isDefer_spec rfl), wd_eval]
    have hrun : (execOp a4.eval (⟨some 17, .call { callee := .value (.tmp 11), args := #[.tmp 12, .tmp 16], argTypes := #[3, 3] }, 4, "iter.go:29", #[{ on := 0, ground := .data }, { on := 1, ground := .data }, { on := 5, ground := .data }], none⟩ : Oper)).run Tryz.prog W4 = .ok (.round l fn tmps assign bd) W4 := by
      simp [execOp, resolve, Deferred.ofValue, e11, e12, e16, invoke]
      exact hy
    rw [hrun]
    refine ⟨fun hh => by simp [wideR] at hh, hR.mono ?_⟩
    rintro e W5 (⟨rfl, hJ5, hK5⟩ | ⟨rfl, hJx5⟩)
    · -- on
      have hQ5 := hK5 hQ4
      have hr40 : ρ4 0 = ρ 0 := (hρ4 0 (by show 0 < 2; decide)).trans ((hρ3 0 (by show 0 < 2; decide)).trans hr0)
      have hr41 : ρ4 1 = ρ 1 := (hρ4 1 (by show 1 < 2; decide)).trans ((hρ3 1 (by show 1 < 2; decide)).trans hr1)
      have s5 : StOk W5 ρ4 ⟨T50 l (112 - (k : Int)), h50 zs cap t0 o0, []⟩ a4 W5 := by
        refine ⟨bndB_spec (by kernel_rfl), ⟨s4.rel.size, s4.rel.defers, fun t u hu => ?_⟩, st50 (hQ5.congr hr40.symm hr41.symm)⟩
        have e : T50 l (112 - (k : Int)) = maskAt 0 (mkA [(0, yV l), (1, ptr 0), (3, I1 .i64 (112 - (k : Int))), (11, yV l), (12, I1 .i64 (112 - (k : Int))), (13, .g (.a (.s 1 113 cap))), (14, I1 .i64 (112 - (k : Int))), (15, .g (.a (.p 1 ((112 - (k : Int)).toNat * 1)))), (16, I1 .i64 v)] 19 0) [0, 1, 3] := by kernel_rfl
        exact s4.rel.at_ t u (lk_maskAt _ 0 t [0, 1, 3] u (by rw [← e]; exact hu))
      have s6 := s5.putV (d := 17) (show 17 < 19 by decide) (v := .bool true)
      show wpOpsIn _ _ _ _ _ _ ((wd [] a4).put (some 17) (.bool true)) W5
      rw [wd_put]
      refine restA_in (sy := ⟨false, []⟩) (q := 7) (ts := [0, 1, 3, 18]) (ks := [0, 1]) (hl := 2) (st' := ⟨mkA [(0, yV l), (1, ptr 0), (3, I1 .i64 (112 - (k : Int))), (18, B1 false)] 19 0, h50 zs cap t0 o0, []⟩) spOk_nil (by kernel_rfl) (by kernel_rfl) met0 s6 fun ρ7 a7 W7 hρ7 s7 => ?_
      refine toA_in (sy := ⟨false, []⟩) (n := 20) (ts := [0, 1, 3]) (ks := [0, 1]) (hl := 2) (ex := .normal) (st' := ⟨T50 l (112 - (k : Int)), h50 zs cap t0 o0, []⟩) hm spOk_nil (by kernel_rfl) (by kernel_rfl) met0 s7 fun ρ8 a8 W8 hρ8 s8 => ?_
      refine toA_in (sy := ⟨false, [(10, .int .i64 (112 - (k : Int) - 1))]⟩) (n := 20) (ts := [0, 1, 3]) (ks := [0, 1]) (hl := 2) (ex := .normal) (st' := ⟨T50 l (112 - (k : Int) - 1), h50 zs cap t0 o0, [Value.int .i64 (IntKind.i64.wrap (112 - (k : Int) - 1)) = Value.int .i64 (112 - (k : Int) - 1)]⟩) hm spOk_nil (by kernel_rfl) (by kernel_rfl) (fun p hp => by rw [List.mem_singleton.1 hp, wrap_in (by omega)]) s8 fun ρ9 a9 W9 hρ9 s9 => ?_
      refine ⟨a9, ρ9, rfl, (hρ9 0 (by show 0 < 2; decide)).trans ((hρ8 0 (by show 0 < 2; decide)).trans ((hρ7 0 (by show 0 < 2; decide)).trans hr40)), (hρ9 1 (by show 1 < 2; decide)).trans ((hρ8 1 (by show 1 < 2; decide)).trans ((hρ7 1 (by show 1 < 2; decide)).trans hr41)), ?_, ?_⟩
      · rw [hbk]
        exact abide hJ hJ5 s9.ref.below
      · rw [hik']
        exact ⟨s9.bnd, s9.rel, read_ref rfl fun k b hk => ⟨s9.ref.holds k b hk, s9.ref.lt hk⟩⟩
    · -- no more
      have s5 : StOk W5 ρ4 ⟨mkA [] 19 0, [], []⟩ a4 W5 := by
        refine ⟨bndB_spec (by kernel_rfl), ⟨s4.rel.size, s4.rel.defers, fun t u hu => ?_⟩, read_ref rfl (fun k b hk => by cases hk)⟩
        have e : (mkA [] 19 0 : List (Option AV)) = maskAt 0 (mkA [(0, yV l), (1, ptr 0), (3, I1 .i64 (112 - (k : Int))), (11, yV l), (12, I1 .i64 (112 - (k : Int))), (13, .g (.a (.s 1 113 cap))), (14, I1 .i64 (112 - (k : Int))), (15, .g (.a (.p 1 ((112 - (k : Int)).toNat * 1)))), (16, I1 .i64 v)] 19 0) [] := by kernel_rfl
        exact s4.rel.at_ t u (lk_maskAt _ 0 t [] u (by rw [← e]; exact hu))
      have s6 := s5.putV (d := 17) (show 17 < 19 by decide) (v := .bool false)
      show wpOpsIn _ _ _ _ _ _ ((wd [] a4).put (some 17) (.bool false)) W5
      rw [wd_put]
      refine restA_in (sy := ⟨false, []⟩) (q := 7) (ts := [18]) (ks := []) (hl := 0) (st' := ⟨mkA [(18, B1 true)] 19 0, [], []⟩) spOk_nil (by kernel_rfl) (by kernel_rfl) met0 s6 fun ρ7 a7 W7 hρ7 s7 => ?_
      refine toA_in (sy := ⟨false, []⟩) (n := 20) (ts := []) (ks := []) (hl := 0) (ex := .ret) (st' := ⟨mkA [] 19 0, [], []⟩) hm spOk_nil (by kernel_rfl) (by kernel_rfl) met0 s7 fun ρ8 a8 W8 hρ8 s8 => ?_
      rw [wd_nil s8.rel.defers]
      exact fun_end (P := Tryz.prog) (fn := Tryz.f50) (e := .ret) (R := fun e W' => (∃ v, e = Ending.returned v) ∧ ((∃ xs, xs = List.range 113 ∧ J xs W') ∨ (∃ pre, True ∧ Jx pre W'))) s8 (l := []) rfl ⟨⟨_, rfl⟩, .inr ⟨_, trivial, abide hJx hJx5 s8.ref.below⟩⟩ (.inl rfl)
  · rintro a W2 ⟨a2, ρ2, rfl, hr0, hr1, hJ2, s2⟩
    refine wpIn_seq ?_
    refine toA_in (sy := ⟨true, []⟩) (n := 20) (ts := []) (ks := []) (hl := 0) (ex := .exit 0) (st' := ⟨mkA [] 19 0, [], []⟩) hm spOk_nil (by kernel_rfl) (by kernel_rfl) met0 s2 fun ρ3 a3 W3 hρ3 s3 => ?_
    rw [wd_nil s3.rel.defers]
    exact fun_end (P := Tryz.prog) (fn := Tryz.f50) (e := .normal) (R := fun e W' => (∃ v, e = Ending.returned v) ∧ ((∃ xs, xs = List.range 113 ∧ J xs W') ∨ (∃ pre, True ∧ Jx pre W'))) s3 (l := []) rfl ⟨⟨_, rfl⟩, .inl ⟨_, rfl, hab hJ2 s3.ref⟩⟩ (.inr rfl)
end Go.Proofs.YtkiaodihfofbnaaGreatDoor.X
namespace Go.Proofs.YtkiaodihfofbnaaGreatDoor.X
open Go Go.RowKit
set_option maxRecDepth 100000

/-! ### One bit -/
def bitI (l : List Int) (m : Int) : Int := if tbit l m.toNat then 1 else 0
def anB (a b : Int) : Int := IntKind.u8.wrap ((BitVec.ofInt 8 a &&& BitVec.ofInt 8 b).toNat : Int)
theorem wrap8_nat {n : Nat} (h : n < 256) : IntKind.u8.wrap (n : Int) = n := by
  unfold IntKind.wrap
  simp only [IntKind.bits, IntKind.signed, Bool.false_and, Bool.false_eq_true, if_false]
  have e : (2 : Int) ^ 8 = 256 := rfl
  rw [e]; omega
theorem anB_one {B : Nat} (hB : B < 256) : anB (B : Int) 1 = ((B % 2 : Nat) : Int) := by
  unfold anB
  have e : BitVec.ofInt 8 (B : Int) = BitVec.ofNat 8 B := BitVec.ofInt_natCast ..
  have e1 : BitVec.ofInt 8 1 = BitVec.ofNat 8 1 := rfl
  rw [e, e1, BitVec.toNat_and, BitVec.toNat_ofNat, BitVec.toNat_ofNat, Nat.mod_eq_of_lt (by omega), show 1 % 2 ^ 8 = 1 from rfl, Nat.and_one_is_mod, wrap8_nat (by omega)]
def ob101 (l : List Int) (m : Int) (r : Nat) (b : Int) : List Prop :=
  [Value.int .u8 (anB ((l.getD ((qi m).toNat * 1) 0).fdiv (2 ^ r)) 1) = Value.int .u8 b, Value.int .i64 (m.tmod 8) = Value.int .i64 (r : Int), (qi m).toNat * 1 < l.length, 0 ≤ qi m ∧ qi m < ((56 : Nat) : Int), Value.bool (decide (m ≥ 448)) = Value.bool false]
theorem qi_nat {m : Nat} (h : m < 448) : qi (m : Int) = ((m / 8 : Nat) : Int) := by
  unfold qi
  have e : (m : Int).tdiv 8 = ((m / 8 : Nat) : Int) := rfl
  rw [e, wrap_in (by omega)]
theorem fdiv_nat (B r : Nat) : (B : Int).fdiv (2 ^ r) = ((B / 2 ^ r : Nat) : Int) := by
  have : (2 : Int) ^ r = ((2 ^ r : Nat) : Int) := by rw [Int.natCast_pow]; rfl
  rw [this, Int.fdiv_eq_ediv_of_nonneg _ (Int.natCast_nonneg _)]
  rfl
theorem tbit_eq {l : List Int} {m B : Nat} (hB : l.getD (m / 8) 0 = B) : (if tbit l m then (1 : Int) else 0) = ((B / 2 ^ (m % 8) % 2 : Nat) : Int) := by
  unfold tbit
  rw [hB]
  have e2 : (B : Int) / 2 ^ (m % 8) % 2 = ((B / 2 ^ (m % 8) % 2 : Nat) : Int) := by
    rw [Int.natCast_emod, Int.natCast_ediv, Int.natCast_pow]; rfl
  rw [e2]
  have : B / 2 ^ (m % 8) % 2 < 2 := Nat.mod_lt _ (by decide)
  generalize B / 2 ^ (m % 8) % 2 = c at *
  have h : c = 0 ∨ c = 1 := by omega
  rcases h with rfl | rfl <;> rfl
theorem ob101_met {l : List Int} (hb : Bytes256 l) (hl : l.length = 56) {m : Nat} (h : m < 448) : Met (ob101 l (m : Int) (m % 8) (if tbit l m then 1 else 0)) := by
  obtain ⟨B, hB, hB2⟩ := hb.get (m / 8)
  intro p hp
  simp only [ob101, List.mem_cons, List.not_mem_nil, or_false] at hp
  rw [qi_nat h] at hp
  rcases hp with rfl | rfl | rfl | rfl | rfl
  · rw [Int.toNat_natCast, Nat.mul_one, tbit_eq hB, hB, fdiv_nat, anB_one (Nat.lt_of_le_of_lt (Nat.div_le_self _ _) hB2)]
  · have e : (m : Int).tmod 8 = ((m % 8 : Nat) : Int) := rfl
    rw [e]
  · rw [Int.toNat_natCast, hl]; omega
  · omega
  · rw [decide_eq_false (by omega)]
theorem fun101 : Fun Tryz.prog 101 Tryz.f101 := ⟨Tryz.func101, by kernel_rfl, by kernel_rfl⟩
theorem bit_run (l : List Int) (cap : Option Nat) (t0 : TypeId) (o0 : Bool) (t : TypeId) (m : Int) (r : Nat) (hr : r < 8) (b : Bool) :
    ansOf (runFn Tryz.prog (spOf []) ⟨true, [(8, .bool false), (15, .int .i64 (r : Int)), (17, .int .u8 (if b then 1 else 0))]⟩ 100 Tryz.f101 [I1 .i64 m, ptr 0] (hSR l 56 cap t0 o0 t)) = some (I1 .i64 (if b then 1 else 0), ob101 l m r (if b then 1 else 0)) := by
  have h8 : r = 0 ∨ r = 1 ∨ r = 2 ∨ r = 3 ∨ r = 4 ∨ r = 5 ∨ r = 6 ∨ r = 7 := by omega
  rcases h8 with rfl | rfl | rfl | rfl | rfl | rfl | rfl | rfl <;> cases b <;> (show ansOf _ = some _; kernel_rfl)
def e101 : Ent := ⟨101, fun args V _ => match args with
  | [.g (.a (.v (.int .i64 m))), .g (.a (.p k1 0))] => match boxS V 56 k1 with
    | some (k, _) => match rowV V 56 k with
      | some (l, ob) => some ⟨I1 .i64 (bitI l m), [], Bytes256 l :: (0 ≤ m ∧ m < 448) :: ob⟩
      | none => none
    | none => none
  | _ => none⟩
theorem e101_ok : EntOk Tryz.prog e101 := fun args V kn o ho hob w0 ρ w H hR hV g1 g2 g3 => by
  unfold e101 at ho
  simp only at ho
  split at ho
  · rename_i m k1
    split at ho
    · rename_i k cap hb
      split at ho
      · rename_i l ob hl
        obtain rfl := Option.some.inj ho
        have h256 : Bytes256 l := hob _ (List.mem_cons_self ..)
        have hm' : 0 ≤ m ∧ m < 448 := hob _ (List.mem_cons_of_mem _ (List.mem_cons_self ..))
        obtain ⟨t0, o0, w1, h1⟩ := boxS_spec hb
        obtain ⟨b, hk, h56, hf⟩ := rowV_spec hl (fun p hp => hob p (List.mem_cons_of_mem _ (List.mem_cons_of_mem _ hp)))
        refine does_ref hR ?_
        have hh := hSR_holds hR (hV _ _ h1) (hV _ _ hk) hf
        obtain ⟨n, rfl⟩ := Int.eq_ofNat_of_zero_le hm'.1
        exact read_run hm spOk_nil fun101 _ 100 (bit_run l cap t0 o0 b.t (n : Int) (n % 8) (Nat.mod_lt _ (by decide)) (tbit l n)) (ob101_met h256 h56 (by omega)) (by cases tbit l n <;> kernel_rfl) hh
      · cases ho
    · cases ho
  · cases ho

/-! ### A window -/
def orI (a b : Int) : Int := IntKind.i64.wrap ((BitVec.ofInt 64 a ||| BitVec.ofInt 64 b).toNat : Int)
def winW (l : List Int) (m : Int) : Int :=
  let b := fun (j : Nat) => bitI l (IntKind.i64.wrap (m + j))
  orI (orI (orI (orI 0 (IntKind.i64.wrap (b 0 * 2 ^ 0))) (IntKind.i64.wrap (b 1 * 2 ^ 1))) (IntKind.i64.wrap (b 2 * 2 ^ 2))) (IntKind.i64.wrap (b 3 * 2 ^ 3))
theorem fun75 : Fun Tryz.prog 75 Tryz.f75 := ⟨Tryz.func75, by kernel_rfl, by kernel_rfl⟩
def e75 : Ent := ⟨75, fun args V _ => match args with
  | [.g (.a (.c 101 [] [k1])), .g (.a (.v (.int .i64 m))), .g (.a (.v (.int .i64 (.ofNat 1)))), .g (.a (.v (.int .i64 (.ofNat 4))))] => match boxS V 56 k1 with
    | some (k, _) => match rowV V 56 k with
      | some (l, ob) => some ⟨I1 .i64 (winW l m), [], Bytes256 l :: (0 ≤ m ∧ m + 3 < 448) :: ob⟩
      | none => none
    | none => none
  | _ => none⟩
def ob75 (l : List Int) (m : Int) : List Prop :=
  let o := fun (j : Nat) => [Bytes256 l, 0 ≤ IntKind.i64.wrap (m + j) ∧ IntKind.i64.wrap (m + j) < 448, l.length = 56]
  o 3 ++ o 2 ++ o 1 ++ o 0
theorem e75_ok : EntOk Tryz.prog e75 := fun args V kn o ho hob w0 ρ w H hR hV g1 g2 g3 => by
  unfold e75 at ho
  simp only at ho
  split at ho
  · rename_i k1 m
    split at ho
    · rename_i k cap hb
      split at ho
      · rename_i l ob hl
        obtain rfl := Option.some.inj ho
        have h256 : Bytes256 l := hob _ (List.mem_cons_self ..)
        have hm' : 0 ≤ m ∧ m + 3 < 448 := hob _ (List.mem_cons_of_mem _ (List.mem_cons_self ..))
        obtain ⟨t0, o0, w1, h1⟩ := boxS_spec hb
        obtain ⟨b, hk, h56, hf⟩ := rowV_spec hl (fun p hp => hob p (List.mem_cons_of_mem _ (List.mem_cons_of_mem _ hp)))
        refine does_ref hR ?_
        have hh := hSR_holds hR (hV _ _ h1) (hV _ _ hk) hf
        exact read_run (args := [.g (.a (.c 101 [] [0])), I1 .i64 m, I1 .i64 1, I1 .i64 4]) (r := I1 .i64 (winW l m)) (ob := ob75 l m) hm (spOk_cons e101_ok spOk_nil) fun75 ⟨true, []⟩ 100 (H := hSR l 56 cap t0 o0 b.t) (by kernel_rfl) (fun p hp => by
          simp only [ob75, List.mem_append, List.mem_cons, List.not_mem_nil, or_false] at hp
          have hw : ∀ j : Nat, j ≤ 3 → 0 ≤ IntKind.i64.wrap (m + j) ∧ IntKind.i64.wrap (m + j) < 448 := fun j hj => by rw [wrap_in (by omega)]; omega
          rcases hp with ((h | h) | h) | h <;> rcases h with rfl | rfl | rfl <;> first | exact h256 | exact h56 | exact hw _ (by decide)) (by kernel_rfl) hh
      · cases ho
    · cases ho
  · cases ho
/-- The window as a number. -/
def win (l : List Int) (n : Nat) : Int := bitI l n + 2 * bitI l (n + 1 : Nat) + 4 * bitI l (n + 2 : Nat) + 8 * bitI l (n + 3 : Nat)
theorem winW_eq (l : List Int) (n : Nat) (h : n + 3 < 448) : winW l (n : Int) = win l n := by
  have e : ∀ j : Nat, j ≤ 3 → IntKind.i64.wrap ((n : Int) + j) = ((n + j : Nat) : Int) := fun j hj => by rw [wrap_in (by omega)]; omega
  unfold winW win
  simp only []
  rw [e 0 (by decide), e 1 (by decide), e 2 (by decide), e 3 (by decide), Nat.add_zero]
  unfold bitI
  cases tbit l (n : Int).toNat <;> cases tbit l ((n + 1 : Nat) : Int).toNat <;> cases tbit l ((n + 2 : Nat) : Int).toNat <;> cases tbit l ((n + 3 : Nat) : Int).toNat <;> decide
end Go.Proofs.YtkiaodihfofbnaaGreatDoor.X
