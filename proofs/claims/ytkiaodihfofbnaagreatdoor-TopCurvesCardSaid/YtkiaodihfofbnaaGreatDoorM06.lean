/- X448 of a secret number and a point's u is the u of that number times the point (the law TopCurves): part 7 of 22 of its proof: points, the ladder's step, loops, elements of bytes. No condition. -/
import Derived.Test.YtkiaodihfofbnaaGreatDoorM05
import Derived.Tactics
set_option linter.unusedVariables false
set_option linter.unusedSimpArgs false
namespace Go.Proofs.YtkiaodihfofbnaaGreatDoor.X
open Go Go.RowKit
set_option maxRecDepth 100000

/-- The curve's d. -/
def negD : El := subE zeroEl dE
def idP : Pt := (E0, E1', E1')
theorem fun16 : Fun Tryz.prog 16 Tryz.f16 := ⟨Tryz.func16, by kernel_rfl, by kernel_rfl⟩
def e16 : Ent := ent0 16 (P1 idP)
theorem e16_ok : EntOk Tryz.prog e16 := ent0_ok (plain_run (args := []) hm (spOk_cons e30_ok spOk_nil) fun16 false 100 (ob := []) (by kernel_rfl) met0 (by kernel_rfl))

def addP (p q : Pt) : Pt :=
  let a := mulE p.2.2 q.2.2
  let b := mulE a a
  let c := mulE p.1 q.1
  let e := mulE p.2.1 q.2.1
  let t := mulE (mulE c e) negD
  let down := subE b t
  let up := addE b t
  let h := subE (subE (mulE (addE p.1 p.2.1) (addE q.1 q.2.1)) c) e
  (mulE (mulE a down) h, mulE (mulE a up) (subE e c), mulE down up)
theorem fun17 : Fun Tryz.prog 17 Tryz.f17 := ⟨Tryz.func17, by kernel_rfl, by kernel_rfl⟩
def e17 : Ent := ent2 17 pP pP fun p q => P1 (addP p q)
theorem e17_ok : EntOk Tryz.prog e17 := ent2_ok fun p q =>
  plain_run (args := [P1 p, P1 q]) hm (spOk_cons e33_ok (spOk_cons e36_ok (spOk_cons e45_ok (spOk_cons e41_ok (spOk_cons e46_ok spOk_nil))))) fun17 false 100 (ob := []) (by kernel_rfl) met0 (by kernel_rfl)

def dblP (p : Pt) : Pt :=
  let b := mulE (addE p.1 p.2.1) (addE p.1 p.2.1)
  let c := mulE p.1 p.1
  let e := mulE p.2.1 p.2.1
  let s := addE c e
  let j := subE s (mulE (mulE p.2.2 p.2.2) two')
  (mulE (subE b s) j, mulE s (subE c e), mulE s j)
theorem fun26 : Fun Tryz.prog 26 Tryz.f26 := ⟨Tryz.func26, by kernel_rfl, by kernel_rfl⟩
def e26 : Ent := ent1 26 pP fun p => P1 (dblP p)
theorem e26_ok : EntOk Tryz.prog e26 := ent1_ok fun p =>
  plain_run (args := [P1 p]) hm (spOk_cons e33_ok (spOk_cons e36_ok (spOk_cons e45_ok (spOk_cons e41_ok (spOk_cons e46_ok spOk_nil))))) fun26 false 100 (ob := []) (by kernel_rfl) met0 (by kernel_rfl)

def negP (p : Pt) : Pt := (subE zeroEl p.1, p.2.1, p.2.2)
theorem fun29 : Fun Tryz.prog 29 Tryz.f29 := ⟨Tryz.func29, by kernel_rfl, by kernel_rfl⟩
def e29 : Ent := ent1 29 pP fun p => P1 (negP p)
theorem e29_ok : EntOk Tryz.prog e29 := ent1_ok fun p =>
  plain_run (args := [P1 p]) hm (spOk_cons e53_ok spOk_nil) fun29 false 100 (ob := []) (by kernel_rfl) met0 (by kernel_rfl)

theorem fun52 : Fun Tryz.prog 52 Tryz.f52 := ⟨Tryz.func52, by kernel_rfl, by kernel_rfl⟩
def decK : AV → Option Int
  | .g (.agg [.v (.int .i64 b)]) => some b
  | _ => none
def pK : Pat Int := ⟨decK, fun b => .g (.agg [.v (.int .i64 b)]), fun v a _ h => by unfold decK at h; split at h <;> first | (rw [← Option.some.inj h]; done) | cases h⟩
def e52 : Ent := ent3 52 pK pE pE fun b x y => E1 (selE b x y)
theorem e52_ok : EntOk Tryz.prog e52 := ent3_ok fun b x y =>
  plain_run (args := [.g (.agg [.v (.int .i64 b)]), E1 x, E1 y]) hm (spOk_cons e66_ok spOk_nil) fun52 false 100 (ob := []) (by kernel_rfl) met0 (by kernel_rfl)
def selP (b : Int) (p q : Pt) : Pt := (selE b p.1 q.1, selE b p.2.1 q.2.1, selE b p.2.2 q.2.2)
theorem fun28 : Fun Tryz.prog 28 Tryz.f28 := ⟨Tryz.func28, by kernel_rfl, by kernel_rfl⟩
def e28 : Ent := ent3 28 pI pP pP fun b p q => P1 (selP b p q)
theorem e28_ok : EntOk Tryz.prog e28 := ent3_ok fun b p q =>
  plain_run (args := [I1 .i64 b, P1 p, P1 q]) hm (spOk_cons e52_ok spOk_nil) fun28 false 100 (ob := []) (by kernel_rfl) met0 (by kernel_rfl)

/-! ### A point's two elements -/
theorem fun61 : Fun Tryz.prog 61 Tryz.f61 := ⟨Tryz.func61, by kernel_rfl, by kernel_rfl⟩
def e61 : Ent := ⟨61, fun args V _ => match args with
  | [.g (.agg [.e x]), .g (.a (.p k 0))] => match rdE V k with
    | some y => some ⟨E1 (mulE x y), [], []⟩
    | none => none
  | _ => none⟩
theorem e61_ok : EntOk Tryz.prog e61 := fun args V kn o ho hob w0 ρ w H hR hV _ _ hfx => by
  unfold e61 at ho
  simp only at ho
  split at ho
  · rename_i x k
    split at ho
    · rename_i y hy
      obtain rfl := Option.some.inj ho
      obtain ⟨t, o, b, hy⟩ := rdE_spec hy
      replace hy := hV _ _ hy
      refine does_ref hR ?_
      have hH : ∀ i b0, lk [some (⟨[.e y], t, o, false⟩ : Blk)] i = some b0 → ∃ b, H ((fun _ => k) i) = some b ∧ b.cs = b0.cs.map (At.ren fun _ => k) ∧ b.t = b0.t ∧ b.opn = b0.opn := fun i b0 hi => by
        match i, hi with
        | 0, hi => obtain rfl := Option.some.inj hi; exact ⟨_, hy, rfl, rfl, rfl⟩
      exact caps_run (args0 := [E1 x, .g (.a (.p 0 0))]) (r := E1 (mulE x y)) (ob := []) hm (spOk_cons e33_ok spOk_nil) fun61 false 100 (by kernel_rfl) met0 (by kernel_rfl) (fun _ => k) hR hH
    · cases ho
  · cases ho
theorem fun35 : Fun Tryz.prog 35 Tryz.f35 := ⟨Tryz.func35, by kernel_rfl, by kernel_rfl⟩
def e35 : Ent := ent1 35 pP fun p => .tup [.agg [.e (mulE p.1 (invE p.2.2))], .agg [.e (mulE p.2.1 (invE p.2.2))]]
theorem e35_ok : EntOk Tryz.prog e35 := ent1_ok fun p =>
  plain_run (args := [P1 p]) hm (spOk_cons e34_ok (spOk_cons e61_ok spOk_nil)) fun35 false 100 (ob := []) (by kernel_rfl) met0 (by kernel_rfl)
/-- u of a point. -/
def uP (p : Pt) : El :=
  let x := mulE p.1 (invE p.2.2)
  let y := mulE p.2.1 (invE p.2.2)
  mulE (mulE y y) (invE (mulE x x))
theorem fun8 : Fun Tryz.prog 8 Tryz.f8 := ⟨Tryz.func8, by kernel_rfl, by kernel_rfl⟩
def e8 : Ent := ent1 8 pP fun p => E1 (uP p)
theorem e8_ok : EntOk Tryz.prog e8 := ent1_ok fun p =>
  plain_run (args := [P1 p]) hm (spOk_cons e35_ok (spOk_cons e36_ok (spOk_cons e34_ok (spOk_cons e33_ok spOk_nil)))) fun8 false 100 (ob := []) (by kernel_rfl) met0 (by kernel_rfl)

/-! ### The point of two elements -/
/-- The same: that they are so must hold. -/
def e11t : Ent := ⟨11, fun args _ _ => match args with
  | [.g (.agg [.e x]), .g (.agg [.e y])] => some ⟨B1 true, [], [isZ (subE x y) = true]⟩
  | _ => none⟩
theorem e11t_ok : EntOk Tryz.prog e11t := fun args V kn o ho hob w0 ρ w H hR hV hn hf hfx => by
  unfold e11t at ho
  simp only at ho
  split at ho
  · rename_i x y
    obtain rfl := Option.some.inj ho
    have := e11_ok [E1 x, E1 y] V kn ⟨B1 (isZ (subE x y)), [], []⟩ rfl met0 w0 ρ w H hR hV hn hf hfx
    have hz : isZ (subE x y) = true := hob.one
    rw [hz] at this
    exact this
  · cases ho
/-- Whether two elements are on the curve. -/
def onC (x y : El) : Bool :=
  let a := mulE x x
  let b := mulE y y
  isZ (subE (addE a b) (addE E1' (mulE (mulE a b) negD)))
theorem fun44 : Fun Tryz.prog 44 Tryz.f44 := ⟨Tryz.func44, by kernel_rfl, by kernel_rfl⟩
theorem of_plain {x y : El} (h : onC x y = true) : Plain Tryz.prog 44 [E1 x, E1 y] (.tup [.agg [.e x, .e y, .e E1'], .a (.v (.int .i64 0))]) :=
  plain_run (args := [E1 x, E1 y]) hm (spOk_cons e36_ok (spOk_cons e46_ok (spOk_cons e30_ok (spOk_cons e33_ok (spOk_cons e45_ok (spOk_cons e11t_ok spOk_nil)))))) fun44 false 100 (ob := [onC x y = true]) (by kernel_rfl) (fun p hp => by rw [List.mem_singleton.1 hp]; exact h) (by kernel_rfl)
def e44 : Ent := ⟨44, fun args _ _ => match args with
  | [.g (.agg [.e x]), .g (.agg [.e y])] => some ⟨.tup [.agg [.e x, .e y, .e E1'], .a (.v (.int .i64 0))], [], [onC x y = true]⟩
  | _ => none⟩
theorem e44_ok : EntOk Tryz.prog e44 := fun args V kn o ho hob w0 ρ w H hR hV hn hf hfx => by
  unfold e44 at ho
  simp only at ho
  split at ho
  · rename_i x y
    obtain rfl := Option.some.inj ho
    exact does_ref hR (of_plain hob.one w ρ)
  · cases ho

/-! ### The ladder's step -/
def swE (b : Int) (p : El × El) : El × El := (selE b p.1 p.2, selE b p.2 p.1)
theorem fun31 : Fun Tryz.prog 31 Tryz.f31 := ⟨Tryz.func31, by kernel_rfl, by kernel_rfl⟩
def e31 : Ent := ent2 31 pE2 pI fun p b => E2 (swE b p)
theorem e31_ok : EntOk Tryz.prog e31 := ent2_ok fun p b =>
  plain_run (args := [E2 p, I1 .i64 b]) hm (spOk_cons e54_ok spOk_nil) fun31 false 100 (ob := []) (by kernel_rfl) met0 (by kernel_rfl)
/-- x and z behind a step, of x and z. -/
def stepX (x z : El × El) : El × El :=
  let a := addE x.1 z.1
  let b := subE x.1 z.1
  let s := mulE (subE x.2 z.2) a
  let t := mulE (addE x.2 z.2) b
  (mulE (mulE a a) (mulE b b), mulE (addE s t) (addE s t))
def stepZ (u : El) (x z : El × El) : El × El :=
  let a := addE x.1 z.1
  let b := subE x.1 z.1
  let s := mulE (subE x.2 z.2) a
  let t := mulE (addE x.2 z.2) b
  let w := subE (mulE a a) (mulE b b)
  (mulE w (addE (mulE a a) (mulE w dE)), mulE u (mulE (subE s t) (subE s t)))
theorem fun32 : Fun Tryz.prog 32 Tryz.f32 := ⟨Tryz.func32, by kernel_rfl, by kernel_rfl⟩
def stepR (u : El) (x z : El × El) : AV := .tup [.agg [.e (stepX x z).1, .e (stepX x z).2], .agg [.e (stepZ u x z).1, .e (stepZ u x z).2]]
def e32 : Ent := ent3 32 pE pE2 pE2 stepR
theorem e32_ok : EntOk Tryz.prog e32 := ent3_ok fun u x z =>
  plain_run (args := [E1 u, E2 x, E2 z]) hm (spOk_cons e46_ok (spOk_cons e41_ok (spOk_cons e33_ok (spOk_cons e36_ok (spOk_cons e45_ok spOk_nil))))) fun32 false 100 (ob := []) (by kernel_rfl) met0 (by kernel_rfl)
theorem fun100 : Fun Tryz.prog 100 Tryz.f100 := ⟨Tryz.func100, by kernel_rfl, by kernel_rfl⟩
def e100 : Ent := ent3 100 pE pE2 pE2 stepR
theorem e100_ok : EntOk Tryz.prog e100 := ent3_ok fun u x z =>
  plain_run (args := [E1 u, E2 x, E2 z]) hm (spOk_cons e46_ok (spOk_cons e41_ok (spOk_cons e33_ok (spOk_cons e36_ok (spOk_cons e45_ok spOk_nil))))) fun100 false 100 (ob := []) (by kernel_rfl) met0 (by kernel_rfl)

/-! ### Whether two numbers are the same -/
theorem fun51 : Fun Tryz.prog 51 Tryz.f51 := ⟨Tryz.func51, by kernel_rfl, by kernel_rfl⟩
def sameW (a b : Int) : Int :=
  let x := xo (IntKind.u64.wrap a) (IntKind.u64.wrap b)
  IntKind.i64.wrap (1 - IntKind.i64.wrap ((orW x (sb 0 x)).fdiv (2 ^ 63)))
theorem same_plain (a b : Int) : Plain Tryz.prog 51 [I1 .i64 a, I1 .i64 b] (I1 .i64 (sameW a b)) :=
  plain_run (args := [I1 .i64 a, I1 .i64 b]) hm spOk_nil fun51 false 100 (ob := []) (by kernel_rfl) met0 (by kernel_rfl)
end Go.Proofs.YtkiaodihfofbnaaGreatDoor.X
namespace Go.Proofs.YtkiaodihfofbnaaGreatDoor.X
open Go Go.RowKit

def maskAt {β : Type} : Nat → List (Option β) → List Nat → List (Option β)
  | _, [], _ => []
  | i, x :: l, ks => (if ks.contains i then x else none) :: maskAt (i + 1) l ks
theorem lk_maskAt {β : Type} : ∀ (l : List (Option β)) (i k : Nat) (ks : List Nat) (b : β), lk (maskAt i l ks) k = some b → lk l k = some b
  | [], i, k, ks, b, h => by cases h
  | x :: l, i, 0, ks, b, h => by
    unfold lk at h ⊢
    simp only [maskAt, List.getElem?_cons_zero, Option.join_some] at h ⊢
    split at h
    · exact h
    · cases h
  | x :: l, i, k + 1, ks, b, h => by
    have := lk_maskAt l (i + 1) k ks b
    unfold lk at this h ⊢
    simp only [maskAt, List.getElem?_cons_succ] at h ⊢
    exact this h
theorem maskAt_length {β : Type} : ∀ (l : List (Option β)) (i : Nat) (ks : List Nat), (maskAt i l ks).length = l.length
  | [], _, _ => rfl
  | x :: l, i, ks => by rw [maskAt, List.length_cons, List.length_cons, maskAt_length l]
theorem lk_take {β : Type} {l : List (Option β)} {n k : Nat} {b : β} (h : lk (l.take n) k = some b) : lk l k = some b := by
  unfold lk at h ⊢
  cases hh : (l.take n)[k]? with
  | none => rw [hh] at h; cases h
  | some x =>
    rw [hh] at h
    rw [(getElem?_take_lt hh).2]
    exact h

/-- A state of which less is told. -/
def cutSt (s : St) (ts ks : List Nat) (hl : Nat) : St := ⟨maskAt 0 s.T ts, (maskAt 0 s.H ks).take hl, s.ob⟩
def toA (P : Program) (sp : Sp) (sy : Md) (n : Nat) (c : Code) (st : St) (ts ks : List Nat) (hl : Nat) : Option (Ex × St) :=
  match exec P sp sy n c st with
  | some (ex, s) => match bndB (cutSt s ts ks hl).T (cutSt s ts ks hl).H with
    | true => some (ex, cutSt s ts ks hl)
    | false => none
  | none => none

theorem StOk.cut {w0 : Base} {ρ : Rho} {s : St} {a : Act} {w : World} (h : StOk w0 ρ s a w) {ts ks : List Nat} {hl : Nat} (hb : bndB (cutSt s ts ks hl).T (cutSt s ts ks hl).H = true) : StOk w0 ρ (cutSt s ts ks hl) a w := by
  refine ⟨bndB_spec hb, ⟨?_, h.rel.defers, fun t v hv => h.rel.at_ t v (lk_maskAt _ _ _ _ _ hv)⟩, ⟨h.ref.below, ?_, ?_, ?_, ?_, h.ref.others, ?_, h.ref.keep⟩⟩
  · rw [h.rel.size]; exact (maskAt_length _ _ _).symm
  · exact fun k b hk => h.ref.holds k b (lk_maskAt _ _ _ _ _ (lk_take hk))
  · exact fun k b hk => h.ref.own k b (lk_maskAt _ _ _ _ _ (lk_take hk))
  · exact fun k b hk => h.ref.ext k b (lk_maskAt _ _ _ _ _ (lk_take hk))
  · exact fun k k' b b' hk hk' => h.ref.inj k k' b b' (lk_maskAt _ _ _ _ _ (lk_take hk)) (lk_maskAt _ _ _ _ _ (lk_take hk'))
  · exact fun k b hk => h.ref.free k b (lk_maskAt _ _ _ _ _ (lk_take hk))

theorem toA_sound {P : Program} {sp : Sp} (hm : P.follows .mixedOrders = true) (hsp : SpOk P sp) {sy : Md} {n : Nat} {c : Code} {st st' : St} {ex : Ex} {ts ks : List Nat} {hl : Nat} (h : toA P sp sy n c st ts ks hl = some (ex, st')) (hob : Met st'.ob)
    {w0 : Base} {ρ : Rho} {a : Act} {w : World} (hs : StOk w0 ρ st a w) {Q : Exit → Act → World → Prop} (hk : ∀ ρ' a' w', (∀ k, k < st.H.length → ρ' k = ρ k) → StOk w0 ρ' st' a' w' → Q ex.out a' w') : c.wp P Q a w := by
  unfold toA at h
  split at h
  · rename_i ex' s hx
    split at h
    · rename_i hb
      obtain ⟨rfl, rfl⟩ := Prod.mk.inj (Option.some.inj h)
      exact exec_sound hm hsp n c st s _ ρ a w Q hx hob hs fun ρ' a' w' hn hs' => hk ρ' a' w' hn.agree (hs'.cut hb)
    · cases h
  · cases h

/-- States by what is known of them. -/
def mkA {β : Type} (l : List (Nat × β)) : Nat → Nat → List (Option β)
  | 0, _ => []
  | n + 1, i => l.lookup i :: mkA l n (i + 1)

/-! ### The first n pieces of a sequence -/
def tailS : Nat → Code → Code
  | 0, c => c
  | n + 1, .seq _ b => tailS n b
  | _, _ => .skip
def execS (P : Program) (sp : Sp) (sy : Md) (m : Nat) : Nat → Code → St → Option St
  | 0, _, st => some st
  | n + 1, .seq a b, st => match exec P sp sy m a st with
    | some (.normal, st') => execS P sp sy m n b st'
    | _ => none
  | _, _, _ => none
theorem execS_ob {P : Program} {sp : Sp} {sy : Md} {m : Nat} : ∀ (n : Nat) (c : Code) (st st' : St), execS P sp sy m n c st = some st' → Met st'.ob → Met st.ob
  | 0, c, st, st', h => by rw [execS] at h; rw [Option.some.inj h]; exact id
  | n + 1, c, st, st', h => by
    cases c with
    | seq x y =>
      rw [execS] at h
      split at h
      · rename_i hx
        exact fun hm => exec_ob _ _ _ _ _ hx (execS_ob _ _ _ _ h hm)
      · cases h
    | _ => simp [execS] at h
theorem execS_sound {P : Program} {sp : Sp} {sy : Md} {w0 : Base} (hm : P.follows .mixedOrders = true) (hsp : SpOk P sp) {m : Nat} {Q : Exit → Act → World → Prop} : ∀ (n : Nat) (c : Code) (st st' : St) (ρ : Rho) (a : Act) (w : World), execS P sp sy m n c st = some st' → Met st'.ob → StOk w0 ρ st a w →
    (∀ ρ' a' w', Next ρ ρ' st st' → StOk w0 ρ' st' a' w' → (tailS n c).wp P Q a' w') → c.wp P Q a w
  | 0, c, st, st', ρ, a, w, h, _, hs, hk => by
    rw [execS] at h
    obtain rfl := Option.some.inj h
    exact hk ρ a w (Next.refl _ _) hs
  | n + 1, c, st, st', ρ, a, w, h, hob, hs, hk => by
    cases c with
    | seq x y =>
      rw [execS] at h
      split at h
      · rename_i st1 hx
        refine wp_seq (exec_sound hm hsp m x st st1 .normal ρ a w _ hx (execS_ob _ _ _ _ h hob) hs fun ρ1 a1 w1 n1 s1 => ?_)
        exact execS_sound hm hsp n y st1 st' ρ1 a1 w1 h hob s1 fun ρ2 a2 w2 n2 s2 => hk ρ2 a2 w2 (n1.trans n2) s2
      · cases h
    | _ => simp [execS] at h
def toS (P : Program) (sp : Sp) (sy : Md) (m n : Nat) (c : Code) (st : St) (ts ks : List Nat) (hl : Nat) : Option St :=
  match execS P sp sy m n c st with
  | some s => match bndB (cutSt s ts ks hl).T (cutSt s ts ks hl).H with
    | true => some (cutSt s ts ks hl)
    | false => none
  | none => none
theorem toS_sound {P : Program} {sp : Sp} (hm : P.follows .mixedOrders = true) (hsp : SpOk P sp) {sy : Md} {m n : Nat} {c : Code} {st st' : St} {ts ks : List Nat} {hl : Nat} (h : toS P sp sy m n c st ts ks hl = some st') (hob : Met st'.ob)
    {w0 : Base} {ρ : Rho} {a : Act} {w : World} (hs : StOk w0 ρ st a w) {Q : Exit → Act → World → Prop} (hk : ∀ ρ' a' w', (∀ k, k < st.H.length → ρ' k = ρ k) → StOk w0 ρ' st' a' w' → (tailS n c).wp P Q a' w') : c.wp P Q a w := by
  unfold toS at h
  split at h
  · rename_i s hx
    split at h
    · rename_i hb
      obtain rfl := Option.some.inj h
      exact execS_sound hm hsp n c st s ρ a w hx hob hs fun ρ' a' w' hn hs' => hk ρ' a' w' hn.agree (hs'.cut hb)
    · cases h
  · cases h

/-! ### Loops -/
theorem wp_loop_up {P : Program} {Q : Exit → Act → World → Prop} {c : Code} (n : Nat) (I : Nat → Act → World → Prop) {a : Act} {w : World} (h0 : I 0 a w) (step : ∀ i, i < n → ∀ a w, I i a w → c.wp P (Exit.then (I (i + 1)) Q) a w)
    (last : ∀ a w, I n a w → c.wp P (Exit.then (fun _ _ => False) Q) a w) : (Code.loop c).wp P Q a w := by
  have key : ∀ d i, i + d = n → ∀ a w, I i a w → Code.rounds P c Q (d + 1) a w := by
    intro d
    induction d with
    | zero =>
      intro i hi a w h
      have : i = n := by omega
      subst this
      exact last a w h
    | succ d ih =>
      intro i hi a w h
      refine Code.wp_mono (fun e a' w' hq => ?_) (step i (by omega) a w h)
      cases e with
      | normal => exact ih (i + 1) (by omega) a' w' hq
      | exit id => exact hq
      | goto l => exact hq
      | ret => exact hq
      | panic c => exact hq
      | outgrown => exact hq
  exact wp_loop_rounds (n + 1) (key n 0 (by omega) a w h0)

/-- What a function's body must come to. -/
theorem fun_wp {P : Program} {f : FuncId} {fn : Func} (hf : P.funcs[f]? = some fn) {args : List AV} {H : List (Option Blk)} {w0 : Base} {w : World} {ρ : Rho} {R : Ending → World → Prop} {c : Code} (hb : fn.body = some c) (hbd : bndB (startT fn args) H = true) (hR : Ref w0 ρ w (lk H))
    (h : ∀ a, StOk w0 ρ ⟨startT fn args, H, []⟩ a w → c.wp P (bodyPost P fn R) a w) : Calls P f (argsV ρ args) w R :=
  calls_of_wp hf hb (h _ ⟨bndB_spec hbd, startT_rel ρ fn args, hR⟩)
/-- A function's end. -/
theorem fun_end {P : Program} {fn : Func} {w0 : Base} {w : World} {ρ : Rho} {st : St} {a : Act} (hs : StOk w0 ρ st a w) {l : List G} (hl : resL P (lk st.T) (lk st.H) fn.results.toList = some l) {R : Ending → World → Prop} (hR : R (.returned ((packA l).val ρ)) w) {e : Exit} (he : e = .ret ∨ e = .normal) : bodyPost P fn R e a w := by
  have hres := results_sound hs hl
  rcases he with rfl | rfl <;> exact ⟨hs.rel.defers, _, hres, hR⟩

/-! ### Bytes that are read -/
def takeB : Nat → List At → Option (List Int)
  | 0, _ => some []
  | n + 1, .v (.int .u8 z) :: l => match takeB n l with
    | some r => some (z :: r)
    | none => none
  | _, _ => none
theorem takeB_spec : ∀ (n : Nat) (cs : List At) (l : List Int), takeB n cs = some l → l.length = n ∧ ∃ r, cs = vals (l.map (Value.int .u8)) ++ r
  | 0, cs, l, h => by rw [takeB] at h; rw [← Option.some.inj h]; exact ⟨rfl, cs, rfl⟩
  | n + 1, cs, l, h => by
    unfold takeB at h
    split at h
    · rename_i hh; cases hh
    · rename_i n' z cs' hh
      obtain rfl := Nat.succ.inj hh
      split at h
      · rename_i r hr
        obtain ⟨h1, r', h2⟩ := takeB_spec _ _ _ hr
        rw [← Option.some.inj h]
        refine ⟨by simp [h1], r', ?_⟩
        rw [h2]; rfl
      · cases h
    · cases h
/-- The first n bytes of a block. -/
def rowB (n : Nat) (cs : List At) : Option (List Int × List Prop) :=
  match cs with
  | .r .u8 l :: _ => some (l, [l.length = n])
  | cs => match takeB n cs with
    | some l => some (l, [])
    | none => none
theorem rowB_spec {n : Nat} {cs : List At} {l : List Int} {ob : List Prop} (h : rowB n cs = some (l, ob)) (hob : Met ob) : l.length = n ∧ ∀ ρ, ∃ r, flat ρ cs = l.map (Value.int .u8) ++ r := by
  unfold rowB at h
  split at h
  · rename_i l' cs'
    obtain ⟨rfl, rfl⟩ := Prod.mk.inj (Option.some.inj h)
    exact ⟨hob.one, fun ρ => ⟨flat ρ cs', rfl⟩⟩
  · split at h
    · rename_i l' hl
      obtain ⟨rfl, rfl⟩ := Prod.mk.inj (Option.some.inj h)
      obtain ⟨h1, r, h2⟩ := takeB_spec _ _ _ hl
      exact ⟨h1, fun ρ => ⟨flat ρ r, by rw [h2, flat_append, flat_vals]⟩⟩
    · cases h
def Bytes256 (l : List Int) : Prop := ∀ x ∈ l, 0 ≤ x ∧ x < 256
theorem Bytes256.get {l : List Int} (h : Bytes256 l) (i : Nat) : ∃ n : Nat, l.getD i 0 = n ∧ n < 256 := by
  rw [List.getD_eq_getElem?_getD]
  cases hi : l[i]? with
  | none => exact ⟨0, rfl, by decide⟩
  | some x =>
    obtain ⟨h1, h2⟩ := h x (List.mem_of_getElem? hi)
    obtain ⟨n, rfl⟩ := Int.eq_ofNat_of_zero_le h1
    exact ⟨n, rfl, by omega⟩
/-- The bytes of whoever calls, as a function finds them. -/
theorem row_holds {w0 : Base} {w : World} {ρ : Rho} {H : View} (hR : Ref w0 ρ w H) {k : Nat} {b : Blk} (hk : H k = some b) {l : List Int} (hl : ∀ ρ, ∃ r, flat ρ b.cs = l.map (Value.int .u8) ++ r) (ρ' : Rho) (j : Nat) (hj : ρ' j = ρ k) :
    Holds ρ' w j ⟨[.r .u8 l], b.t, true, false⟩ ∧ (ρ' j).1 < w.heap.size := by
  obtain ⟨rest, _, hh⟩ := hR.holds k b hk
  obtain ⟨r, hr⟩ := hl ρ
  rw [hj]
  refine ⟨⟨r ++ rest, (fun h => by cases h), ?_⟩, hR.lt hk⟩
  rw [hj, hh, hr]
  simp [flat, At.cells]
/-- A function that begins where blocks are only read. -/
theorem read_ref {w : World} {ρ : Rho} {H : List (Option Blk)} (hb : justRead H = true) (hh : ∀ k b, lk H k = some b → Holds ρ w k b ∧ (ρ k).1 < w.heap.size) : Ref w ρ w (lk H) := by
  have hown : ∀ k b, lk H k = some b → b.own = false := fun k b hk => by
    have := List.all_eq_true.1 hb _ (lk_mem hk)
    simp only [Bool.not_eq_true'] at this
    exact this
  exact ⟨Below.refl _ _, fun k b hk => (hh k b hk).1, fun k b hk ho => (by rw [hown k b hk] at ho; cases ho), fun k b hk _ => (hh k b hk).2, fun k k' b b' hk _ ho => (by rw [hown k b hk] at ho; cases ho), KeepsOthers.refl w, fun _ _ _ _ h => h, fun _ h => h.elim⟩
/-- From what a function's body comes to. -/
theorem does_of {P : Program} {f : FuncId} {fn : Func} (hf : Fun P f fn) {args : Array Value} {w : World} {r : AV} (hr : r.ids = []) {ρ : Rho} (h : Calls P f args w fun e w' => ∃ ρ', e = .returned (r.val ρ') ∧ Below w.heap.size w w') :
    Does P f args w fun v w' => v = r.val ρ ∧ Below w.heap.size w w' := by
  refine .inl ⟨enters_of hf.at_ hf.name hf.body _ _, h.mono ?_⟩
  rintro e w' ⟨ρ', rfl, hb⟩
  exact ⟨_, rfl, AV.val_congr (fun k hk => by rw [hr] at hk; cases hk), hb⟩
end Go.Proofs.YtkiaodihfofbnaaGreatDoor.X
namespace Go.Proofs.YtkiaodihfofbnaaGreatDoor.X
open Go Go.RowKit
set_option maxRecDepth 100000

def z24 : List At := List.replicate 24 (.v (.int .u64 0))
abbrev ptr (k : Nat) : AV := .g (.a (.p k 0))
def ptC (p : Pt) : List At := [.e p.1, .e p.2.1, .e p.2.2]

def tbit (l : List Int) (m : Nat) : Bool := decide (l.getD (m / 8) 0 / 2 ^ (m % 8) % 2 = 1)
/-- Whether there was a bit, and the point so far, when so many bits have been taken. -/
def nextT (add : Pt → Pt → Pt) (dbl : Pt → Pt) (any b : Bool) (p o : Pt) : Bool × Pt :=
  match any, b with
  | true, true => (true, add (dbl o) p)
  | true, false => (true, dbl o)
  | false, true => (true, add o p)
  | false, false => (false, o)
def tm (l : List Int) (p : Pt) : Nat → Bool × Pt
  | 0 => (false, idP)
  | k + 1 => nextT addP dblP (tm l p k).1 (tbit l (455 - k)) p (tm l p k).2

def halfN : Nat → Int → Int
  | 0, x => x
  | n + 1, x => IntKind.i64.wrap ((halfN n x).tdiv 2)
theorem wrap_in {n : Int} (h : -9223372036854775808 ≤ n ∧ n ≤ 9223372036854775807) : IntKind.i64.wrap n = n := by
  unfold IntKind.wrap
  simp only [IntKind.bits, IntKind.signed]
  simp only [Bool.true_and, ge_iff_le, decide_eq_true_eq]
  have e1 : (2 : Int) ^ 64 = 18446744073709551616 := rfl
  have e2 : (2 : Int) ^ (64 - 1) = 9223372036854775808 := rfl
  rw [e1, e2]
  split <;> omega
theorem halfN_eq (B : Nat) (hB : B < 256) : ∀ n, halfN n (B : Int) = ((B / 2 ^ n : Nat) : Int)
  | 0 => by simp [halfN]
  | n + 1 => by
    rw [halfN, halfN_eq B hB n]
    have h1 : B / 2 ^ n ≤ B := Nat.div_le_self _ _
    have h2 : ((B / 2 ^ n : Nat) : Int).tdiv 2 = ((B / 2 ^ n / 2 : Nat) : Int) := rfl
    have h3 : -9223372036854775808 ≤ ((B / 2 ^ n / 2 : Nat) : Int) ∧ ((B / 2 ^ n / 2 : Nat) : Int) ≤ 9223372036854775807 := by
      generalize B / 2 ^ n = c at *
      omega
    rw [h2, wrap_in h3, Nat.div_div_eq_div_mul, Nat.pow_succ]

def qi (i : Int) : Int := IntKind.i64.wrap (i.tdiv 8)
def timesOb (l : List Int) (i B : Int) (r : Nat) (b : Bool) : List Prop :=
  (Value.int .i64 (IntKind.i64.wrap (i - 1)) = Value.int .i64 (i - 1)) :: (Value.bool ((halfN r B).tmod 2 == 1) = Value.bool b) ::
  (List.replicate (r + 1) (Value.int .i64 (i.tmod 8) = Value.int .i64 (r : Int)) ++
  [Value.int .i64 (IntKind.i64.wrap (l.getD ((qi i).toNat * 1) 0)) = Value.int .i64 B, (qi i).toNat * 1 < l.length, 0 ≤ qi i ∧ qi i < ((57 : Nat) : Int), Value.bool (decide (i ≥ 0)) = Value.bool true])

abbrev tT (cap : Option Nat) (any : Bool) (i : Int) : List (Option AV) := mkA [(0, .g (.a (.s 0 57 cap))), (3, ptr 1), (4, ptr 2), (5, ptr 3), (6, B1 any), (7, I1 .i64 i)] 43 0
abbrev tH (l : List Int) (t : TypeId) (opn : Bool) (p o : Pt) : List (Option Blk) := mkA [(0, (⟨[.r .u8 l], t, opn, false⟩ : Blk)), (1, ⟨ptC p, 31, false, true⟩), (2, ⟨z24, 31, false, true⟩), (3, ⟨ptC o, 31, false, true⟩)] 4 0
def tMd (B : Int) (r : Nat) (b : Bool) (i : Int) : Md := ⟨true, [(16, .bool true), (24, .int .i64 B), (27, .int .i64 (r : Int)), (38, .bool b), (18, .int .i64 (i - 1))]⟩
/-- Sums and doubles under names that nothing looks behind. -/
def spT (add : Pt → Pt → Pt) (dbl : Pt → Pt) : Sp := spOf [e16, ent2 17 pP pP fun p q => P1 (add p q), ent1 26 pP fun p => P1 (dbl p)]
theorem spT_ok : SpOk Tryz.prog (spT addP dblP) := spOk_cons e16_ok (spOk_cons e17_ok (spOk_cons e26_ok spOk_nil))
/-- The loop's body. -/
noncomputable def bodyT : Code := match tailS 3 ((Tryz.f18.body).getD .skip) with
  | .seq (.seq _ (.block _ (.loop c))) _ => c
  | _ => .skip
theorem times_round (add : Pt → Pt → Pt) (dbl : Pt → Pt) (l : List Int) (cap : Option Nat) (t : TypeId) (opn any b : Bool) (p o : Pt) (i B : Int) (r : Nat) (hr : r < 8) :
    toA Tryz.prog (spT add dbl) (tMd B r b i) 60 bodyT ⟨tT cap any i, tH l t opn p o, []⟩ [0, 3, 4, 5, 6, 7] [0, 1, 2, 3] 4 = some (.normal, ⟨tT cap (nextT add dbl any b p o).1 (i - 1), tH l t opn p (nextT add dbl any b p o).2, timesOb l i B r b⟩) := by
  have h8 : r = 0 ∨ r = 1 ∨ r = 2 ∨ r = 3 ∨ r = 4 ∨ r = 5 ∨ r = 6 ∨ r = 7 := by omega
  rcases h8 with rfl | rfl | rfl | rfl | rfl | rfl | rfl | rfl <;> cases any <;> cases b <;> (show toA _ _ _ _ _ _ _ _ _ = some _; kernel_rfl)

theorem timesOb_met {l : List Int} (hb : Bytes256 l) (hl : l.length = 57) {m : Nat} (hm' : m < 456) :
    Met (timesOb l (m : Int) (l.getD (m / 8) 0) (m % 8) (tbit l m)) := by
  obtain ⟨B, hB, hB2⟩ := hb.get (m / 8)
  have hq : qi (m : Int) = ((m / 8 : Nat) : Int) := by
    unfold qi
    have e : (m : Int).tdiv 8 = ((m / 8 : Nat) : Int) := rfl
    rw [e, wrap_in (by omega)]
  intro p hp
  unfold timesOb at hp
  simp only [List.mem_cons, List.mem_append, List.mem_replicate, List.not_mem_nil, or_false] at hp
  rcases hp with rfl | rfl | ⟨_, rfl⟩ | rfl | rfl | rfl | rfl
  · rw [wrap_in (by omega)]
  · rw [hB, halfN_eq B hB2]
    have e : ((B / 2 ^ (m % 8) : Nat) : Int).tmod 2 = ((B / 2 ^ (m % 8) % 2 : Nat) : Int) := rfl
    rw [e]
    unfold tbit
    rw [hB]
    congr 1
  · have e : (m : Int).tmod 8 = ((m % 8 : Nat) : Int) := rfl
    rw [e]
  · rw [hq, Int.toNat_natCast, Nat.mul_one, hB, wrap_in (by omega)]
  · rw [hq, Int.toNat_natCast, hl]; omega
  · rw [hq]; omega
  · rw [decide_eq_true (by omega)]

theorem fun18 : Fun Tryz.prog 18 Tryz.f18 := ⟨Tryz.func18, by kernel_rfl, by kernel_rfl⟩
theorem times_calls (l : List Int) (hb : Bytes256 l) (hl : l.length = 57) (cap : Option Nat) (t : TypeId) (p : Pt) {w : World} {ρ : Rho} (hR : Ref w ρ w (lk [some (⟨[.r .u8 l], t, true, false⟩ : Blk)])) :
    Calls Tryz.prog 18 (argsV ρ [.g (.a (.s 0 57 cap)), P1 p]) w fun e w' => ∃ ρ', e = .returned ((P1 (tm l p 456).2).val ρ') ∧ Below w.heap.size w w' := by
  refine fun_wp (H := [some (⟨[.r .u8 l], t, true, false⟩ : Blk)]) fun18.at_ (c := (Tryz.f18.body).getD .skip) rfl (by kernel_rfl) hR fun a hs => ?_
  refine toS_sound (sy := ⟨true, []⟩) (m := 20) (n := 3) (ts := [0, 3, 4, 5, 6]) (ks := [0, 1, 2, 3]) (hl := 4) (st' := ⟨mkA [(0, .g (.a (.s 0 57 cap))), (3, ptr 1), (4, ptr 2), (5, ptr 3), (6, B1 false)] 43 0, tH l t true p idP, []⟩) hm spT_ok (by kernel_rfl) met0 hs fun ρ1 a1 w1 _ s1 => ?_
  refine wp_seq (wp_seq ?_)
  refine toA_sound (sy := ⟨true, []⟩) (n := 20) (ts := [0, 3, 4, 5, 6, 7]) (ks := [0, 1, 2, 3]) (hl := 4) (ex := .normal) (st' := ⟨tT cap false 455, tH l t true p idP, []⟩) hm spT_ok (by kernel_rfl) met0 s1 fun ρ2 a2 w2 _ s2 => ?_
  refine wp_block (wp_loop_up 456 (fun k a w' => ∃ ρ', StOk w ρ' ⟨tT cap (tm l p k).1 (455 - (k : Int)), tH l t true p (tm l p k).2, []⟩ a w') (by rw [show (455 : Int) - ((0 : Nat) : Int) = 455 from rfl]; exact ⟨ρ2, s2⟩) ?_ ?_)
  · rintro k hk a3 w3 ⟨ρ3, s3⟩
    have e : (455 : Int) - (k : Int) = ((455 - k : Nat) : Int) := by omega
    rw [e] at s3
    have h := times_round addP dblP l cap t true (tm l p k).1 (tbit l (455 - k)) p (tm l p k).2 ((455 - k : Nat) : Int) (l.getD ((455 - k) / 8) 0) ((455 - k) % 8) (Nat.mod_lt _ (by decide))
    refine toA_sound hm spT_ok h (timesOb_met hb hl (by omega)) s3 fun ρ4 a4 w4 _ s4 => ⟨ρ4, ?_⟩
    have e2 : ((455 - k : Nat) : Int) - 1 = 455 - ((k + 1 : Nat) : Int) := by omega
    rw [e2] at s4
    exact ⟨s4.bnd, s4.rel, s4.ref⟩
  · rintro a3 w3 ⟨ρ3, s3⟩
    refine toA_sound (sy := ⟨true, []⟩) (n := 20) (ts := [0, 3, 4, 5, 6, 7]) (ks := [0, 1, 2, 3]) (hl := 4) (ex := .exit 0) (st' := ⟨tT cap (tm l p 456).1 (455 - ((456 : Nat) : Int)), tH l t true p (tm l p 456).2, []⟩) hm spT_ok (by kernel_rfl) met0 s3 fun ρ4 a4 w4 _ s4 => ?_
    refine toA_sound (sy := ⟨true, []⟩) (n := 20) (ts := [4]) (ks := [2]) (hl := 4) (ex := .ret) (st' := ⟨mkA [(4, ptr 2)] 43 0, mkA [(2, (⟨ptC (tm l p 456).2, 31, false, true⟩ : Blk))] 4 0, []⟩) hm spT_ok (by kernel_rfl) met0 s4 fun ρ5 a5 w5 _ s5 => ?_
    exact fun_end s5 (l := [.agg (ptC (tm l p 456).2)]) (by kernel_rfl) ⟨ρ5, rfl, s5.ref.below⟩ (.inl rfl)
def e18 : Ent := ⟨18, fun args V _ => match args with
  | [.g (.a (.s k 57 cap)), .g (.agg [.e x, .e y, .e z])] => match V k with
    | some b => match rowB 57 b.cs with
      | some (l, ob) => some ⟨P1 (tm l (x, y, z) 456).2, [], Bytes256 l :: ob⟩
      | none => none
    | none => none
  | _ => none⟩
theorem e18_ok : EntOk Tryz.prog e18 := fun args V kn o ho hob w0 ρ w H hR hV g1 g2 g3 => by
  unfold e18 at ho
  simp only at ho
  split at ho
  · rename_i k cap x y z
    split at ho
    · rename_i b hb
      split at ho
      · rename_i l ob hl
        obtain rfl := Option.some.inj ho
        obtain ⟨h1, h2⟩ := rowB_spec hl (fun p hp => hob p (List.mem_cons_of_mem _ hp))
        have h256 : Bytes256 l := hob _ (List.mem_cons_self ..)
        refine does_ref hR ?_
        have hh := row_holds hR (hV k b hb) h2 (fun _ => ρ k) 0 rfl
        have hr := read_ref (w := w) (ρ := fun _ => ρ k) (H := [some (⟨[.r .u8 l], b.t, true, false⟩ : Blk)]) rfl (fun k' b' hk' => by
          cases k' with
          | zero => obtain rfl := Option.some.inj hk'; exact hh
          | succ n => cases hk')
        have h := does_of (ρ := ρ) fun18 rfl (times_calls l h256 h1 cap b.t (x, y, z) hr)
        show Does Tryz.prog 18 (argsV ρ [.g (.a (.s k 57 cap)), P1 (x, y, z)]) w fun v w' => v = (P1 (tm l (x, y, z) 456).2).val ρ ∧ Below w.heap.size w w'
        generalize (tm l (x, y, z) 456).2 = q at h ⊢
        exact h
      · cases ho
    · cases ho
  · cases ho
end Go.Proofs.YtkiaodihfofbnaaGreatDoor.X
namespace Go.Proofs.YtkiaodihfofbnaaGreatDoor.X
open Go Go.RowKit
set_option maxRecDepth 100000

/-! ### A limb of bytes -/
def lmbW (l : List Int) (i : Nat) : Int :=
  let g := fun (j : Nat) => IntKind.u64.wrap (l.getD (7 * i + j) 0)
  orW (orW (orW (orW (orW (orW (orW 0 (ml (g 0) (2 ^ 0))) (ml (g 1) (2 ^ 8))) (ml (g 2) (2 ^ 16))) (ml (g 3) (2 ^ 24))) (ml (g 4) (2 ^ 32))) (ml (g 5) (2 ^ 40))) (ml (g 6) (2 ^ 48))
def boxS (V : View) (n k1 : Nat) : Option (Nat × Option Nat) := match V k1 with
  | some b => match b.cs with
    | [.s k m cap] => match m == n with
      | true => some (k, cap)
      | false => none
    | _ => none
  | none => none
theorem boxS_spec {V : View} {n k1 k : Nat} {cap : Option Nat} (h : boxS V n k1 = some (k, cap)) : ∃ t o w, V k1 = some ⟨[.s k n cap], t, o, w⟩ := by
  unfold boxS at h
  split at h
  · rename_i b hb
    split at h
    · rename_i k' m cap' hc
      split at h
      · rename_i hm'
        have := Option.some.inj h
        obtain ⟨rfl, rfl⟩ := Prod.mk.inj this
        obtain rfl := eq_of_beq hm'
        obtain ⟨cs, t, o, w⟩ := b
        simp only at hc
        subst hc
        exact ⟨t, o, w, hb⟩
      · cases h
    · cases h
  · cases h
/-- The bytes behind a slice that lies in a block. -/
def rowV (V : View) (n k : Nat) : Option (List Int × List Prop) := match V k with
  | some b => rowB n b.cs
  | none => none
theorem rowV_spec {V : View} {n k : Nat} {l : List Int} {ob : List Prop} (h : rowV V n k = some (l, ob)) (hob : Met ob) : ∃ b, V k = some b ∧ l.length = n ∧ ∀ ρ, ∃ r, flat ρ b.cs = l.map (Value.int .u8) ++ r := by
  unfold rowV at h
  split at h
  · rename_i b hb
    obtain ⟨h1, h2⟩ := rowB_spec h hob
    exact ⟨b, hb, h1, h2⟩
  · cases h
abbrev rowBlk (l : List Int) (t : TypeId) : Blk := ⟨[.r .u8 l], t, true, false⟩
abbrev hSR (l : List Int) (n : Nat) (cap : Option Nat) (t0 : TypeId) (o0 : Bool) (t : TypeId) : List (Option Blk) := [some (⟨[.s 1 n cap], t0, o0, false⟩ : Blk), some (rowBlk l t)]
theorem hSR_holds {w0 : Base} {w : World} {ρ : Rho} {H : View} (hR : Ref w0 ρ w H) {k1 k n : Nat} {cap : Option Nat} {t0 : TypeId} {o0 w1 : Bool} (h1 : H k1 = some ⟨[.s k n cap], t0, o0, w1⟩) {b : Blk} (hk : H k = some b) {l : List Int} (hl : ∀ ρ, ∃ r, flat ρ b.cs = l.map (Value.int .u8) ++ r) :
    ∀ i b', lk (hSR l n cap t0 o0 b.t) i = some b' → Holds (fun i => ρ (sel2 k1 k i)) w i b' ∧ (ρ (sel2 k1 k i)).1 < w.heap.size := fun i b' hi => by
  match i, hi with
  | 0, hi =>
    obtain rfl := Option.some.inj hi
    obtain ⟨rest, hr, hh⟩ := hR.holds _ _ h1
    exact ⟨⟨rest, hr, hh⟩, hR.lt h1⟩
  | 1, hi =>
    obtain rfl := Option.some.inj hi
    exact row_holds hR hk hl (fun i => ρ (sel2 k1 k i)) 1 rfl
def lit8 (i : Int) : Option Nat := match i with
  | .ofNat 0 => some 0
  | .ofNat 1 => some 1
  | .ofNat 2 => some 2
  | .ofNat 3 => some 3
  | .ofNat 4 => some 4
  | .ofNat 5 => some 5
  | .ofNat 6 => some 6
  | .ofNat 7 => some 7
  | _ => none
theorem lit8_cases {i : Int} {n : Nat} (h : lit8 i = some n) : (i = 0 ∧ n = 0) ∨ (i = 1 ∧ n = 1) ∨ (i = 2 ∧ n = 2) ∨ (i = 3 ∧ n = 3) ∨ (i = 4 ∧ n = 4) ∨ (i = 5 ∧ n = 5) ∨ (i = 6 ∧ n = 6) ∨ (i = 7 ∧ n = 7) := by
  unfold lit8 at h
  split at h
  all_goals first
    | (obtain rfl := Option.some.inj h
       first | exact .inl ⟨rfl, rfl⟩ | exact .inr (.inl ⟨rfl, rfl⟩) | exact .inr (.inr (.inl ⟨rfl, rfl⟩)) | exact .inr (.inr (.inr (.inl ⟨rfl, rfl⟩))) | exact .inr (.inr (.inr (.inr (.inl ⟨rfl, rfl⟩)))) | exact .inr (.inr (.inr (.inr (.inr (.inl ⟨rfl, rfl⟩))))) | exact .inr (.inr (.inr (.inr (.inr (.inr (.inl ⟨rfl, rfl⟩)))))) | exact .inr (.inr (.inr (.inr (.inr (.inr (.inr ⟨rfl, rfl⟩)))))))
    | cases h
theorem fun63 : Fun Tryz.prog 63 Tryz.f63 := ⟨Tryz.func63, by kernel_rfl, by kernel_rfl⟩
def e63 : Ent := ⟨63, fun args V _ => match args with
  | [.g (.a (.v (.int .i64 i))), .g (.a (.p k1 0))] => match boxS V 56 k1 with
    | some (k, _) => match rowV V 56 k, lit8 i with
      | some (l, ob), some n => some ⟨u1 (lmbW l n), [], ob⟩
      | _, _ => none
    | none => none
  | _ => none⟩
def ob63 (l : List Int) (i : Nat) : List Prop := [7 * i + 6 < l.length, 7 * i + 5 < l.length, 7 * i + 4 < l.length, 7 * i + 3 < l.length, 7 * i + 2 < l.length, 7 * i + 1 < l.length, 7 * i < l.length]
theorem ob63_met {l : List Int} (hl : l.length = 56) {i : Nat} (hi : i < 8) : Met (ob63 l i) := fun p hp => by
  simp only [ob63, hl, List.mem_cons, List.not_mem_nil, or_false] at hp
  rcases hp with rfl | rfl | rfl | rfl | rfl | rfl | rfl <;> omega
theorem e63_ok : EntOk Tryz.prog e63 := fun args V kn o ho hob w0 ρ w H hR hV g1 g2 g3 => by
  unfold e63 at ho
  simp only at ho
  split at ho
  · rename_i i k1
    split at ho
    · rename_i k cap hb
      split at ho
      · rename_i l ob n hl hn
        obtain rfl := Option.some.inj ho
        obtain ⟨t0, o0, w1, h1⟩ := boxS_spec hb
        obtain ⟨b, hk, h56, hf⟩ := rowV_spec hl hob
        refine does_ref hR ?_
        have hh := hSR_holds hR (hV _ _ h1) (hV _ _ hk) hf
        have run : ∀ (i : Int) (n : Nat), n < 8 → ansOf (runFn Tryz.prog (spOf []) false 100 Tryz.f63 [I1 .i64 i, .g (.a (.p 0 0))] (hSR l 56 cap t0 o0 b.t)) = some (u1 (lmbW l n), ob63 l n) →
            Does Tryz.prog 63 (argsV ρ [I1 .i64 i, .g (.a (.p k1 0))]) w fun v w' => v = (u1 (lmbW l n)).val ρ ∧ Below w.heap.size w w' :=
          fun i n hn' h => read_run hm spOk_nil fun63 false 100 h (ob63_met h56 hn') (by kernel_rfl) hh
        rcases lit8_cases hn with ⟨rfl, rfl⟩ | ⟨rfl, rfl⟩ | ⟨rfl, rfl⟩ | ⟨rfl, rfl⟩ | ⟨rfl, rfl⟩ | ⟨rfl, rfl⟩ | ⟨rfl, rfl⟩ | ⟨rfl, rfl⟩
        all_goals exact run _ _ (by decide) (by kernel_rfl)
      · cases ho
    · cases ho
  · cases ho
def ofW (l : List Int) : L8 := ⟨lmbW l 0, lmbW l 1, lmbW l 2, lmbW l 3, lmbW l 4, lmbW l 5, lmbW l 6, lmbW l 7⟩

/-! ### The limb as a number -/
def bt (l : List Int) (i : Nat) : Nat := (l.getD i 0).toNat % 256
def lmb (l : List Int) (i : Nat) : Nat := bt l (7 * i) + bt l (7 * i + 1) * 256 + bt l (7 * i + 2) * 65536 + bt l (7 * i + 3) * 16777216 + bt l (7 * i + 4) * 4294967296 + bt l (7 * i + 5) * 1099511627776 + bt l (7 * i + 6) * 281474976710656
theorem bt_lt (l : List Int) (i : Nat) : bt l i < 256 := Nat.mod_lt _ (by decide)
theorem lmb_lt (l : List Int) (i : Nat) : lmb l i < 72057594037927936 := by
  unfold lmb
  have h0 := bt_lt l (7 * i)
  have h1 := bt_lt l (7 * i + 1)
  have h2 := bt_lt l (7 * i + 2)
  have h3 := bt_lt l (7 * i + 3)
  have h4 := bt_lt l (7 * i + 4)
  have h5 := bt_lt l (7 * i + 5)
  have h6 := bt_lt l (7 * i + 6)
  generalize bt l (7 * i) = b0 at *
  generalize bt l (7 * i + 1) = b1 at *
  generalize bt l (7 * i + 2) = b2 at *
  generalize bt l (7 * i + 3) = b3 at *
  generalize bt l (7 * i + 4) = b4 at *
  generalize bt l (7 * i + 5) = b5 at *
  generalize bt l (7 * i + 6) = b6 at *
  omega
theorem bt_eq {l : List Int} (hb : Bytes256 l) (i : Nat) : l.getD i 0 = (bt l i : Int) := by
  obtain ⟨n, h1, h2⟩ := hb.get i
  unfold bt
  rw [h1, Int.toNat_natCast, Nat.mod_eq_of_lt h2]
theorem or_step {a b k : Nat} (ha : a < 2 ^ k) (hb : b < 256) (hk : k ≤ 48) : orW (a : Int) (ml (IntKind.u64.wrap (b : Int)) (2 ^ k)) = ((a + b * 2 ^ k : Nat) : Int) := by
  have h1 : IntKind.u64.wrap (b : Int) = (b : Int) := by rw [wr_nat (by omega)]
  have hp : 2 ^ k ≤ 2 ^ 48 := Nat.pow_le_pow_right (by decide) hk
  have h48 : (2 : Nat) ^ 48 = 281474976710656 := rfl
  have hm' : b * 2 ^ k < 18446744073709551616 := Nat.lt_of_le_of_lt (Nat.mul_le_mul (Nat.le_of_lt hb) hp) (by decide)
  have h2 : ml (b : Int) (2 ^ k) = ((b * 2 ^ k : Nat) : Int) := by
    unfold ml
    have e : (b : Int) * 2 ^ k = ((b * 2 ^ k : Nat) : Int) := by rw [Int.natCast_mul, Int.natCast_pow]; rfl
    rw [e, wr_nat hm']
  rw [h1, h2, orW_nat (by omega) hm']
  congr 1
  rw [Nat.or_comm, Nat.mul_comm b, ← Nat.two_pow_add_eq_or_of_lt ha b, Nat.add_comm]
theorem lmbW_eq {l : List Int} (hb : Bytes256 l) (i : Nat) : lmbW l i = (lmb l i : Int) := by
  unfold lmbW lmb
  simp only [bt_eq hb]
  have h0 := bt_lt l (7 * i)
  have h1 := bt_lt l (7 * i + 1)
  have h2 := bt_lt l (7 * i + 2)
  have h3 := bt_lt l (7 * i + 3)
  have h4 := bt_lt l (7 * i + 4)
  have h5 := bt_lt l (7 * i + 5)
  have h6 := bt_lt l (7 * i + 6)
  rw [Nat.add_zero]
  generalize bt l (7 * i) = b0 at *
  generalize bt l (7 * i + 1) = b1 at *
  generalize bt l (7 * i + 2) = b2 at *
  generalize bt l (7 * i + 3) = b3 at *
  generalize bt l (7 * i + 4) = b4 at *
  generalize bt l (7 * i + 5) = b5 at *
  generalize bt l (7 * i + 6) = b6 at *
  rw [show (0 : Int) = ((0 : Nat) : Int) from rfl, or_step (by decide) h0 (by decide)]
  rw [or_step (k := 8) (by omega) h1 (by decide), or_step (k := 16) (by omega) h2 (by decide), or_step (k := 24) (by omega) h3 (by decide), or_step (k := 32) (by omega) h4 (by decide), or_step (k := 40) (by omega) h5 (by decide), or_step (k := 48) (by omega) h6 (by decide)]
  congr 1
  omega
def ofE (l : List Int) : El :=
  have up : ∀ i, lmb l i < 72057594037928192 := fun i => Nat.lt_trans (lmb_lt l i) (by decide)
  ⟨lmb l 0, lmb l 1, lmb l 2, lmb l 3, lmb l 4, lmb l 5, lmb l 6, lmb l 7, up 0, up 1, up 2, up 3, up 4, up 5, up 6, up 7⟩
theorem ofW_eq {l : List Int} (hb : Bytes256 l) (ρ : Rho) : (W8 (ofW l)).val ρ = (E1 (ofE l)).val ρ := by
  unfold ofW
  rw [lmbW_eq hb, lmbW_eq hb, lmbW_eq hb, lmbW_eq hb, lmbW_eq hb, lmbW_eq hb, lmbW_eq hb, lmbW_eq hb]
  rfl
def e62_63 : Ent := ⟨62, fun args V _ => match args with
  | [.g (.a (.c 63 [] [k1]))] => match boxS V 56 k1 with
    | some (k, _) => match rowV V 56 k with
      | some (l, ob) => some ⟨E1 (ofE l), [], Bytes256 l :: ob⟩
      | none => none
    | none => none
  | _ => none⟩
theorem e62_63_ok : EntOk Tryz.prog e62_63 := fun args V kn o ho hob w0 ρ w H hR hV g1 g2 g3 => by
  unfold e62_63 at ho
  simp only at ho
  split at ho
  · rename_i k1
    split at ho
    · rename_i k cap hb
      split at ho
      · rename_i l ob hl
        obtain rfl := Option.some.inj ho
        have h256 : Bytes256 l := hob _ (List.mem_cons_self ..)
        obtain ⟨t0, o0, w1, h1⟩ := boxS_spec hb
        obtain ⟨b, hk, h56, hf⟩ := rowV_spec hl (fun p hp => hob p (List.mem_cons_of_mem _ hp))
        refine does_ref hR ?_
        have hh := hSR_holds hR (hV _ _ h1) (hV _ _ hk) hf
        have h := read_run (args := [.g (.a (.c 63 [] [0]))]) (r := W8 (ofW l)) (ob := List.replicate 8 (l.length = 56)) hm (spOk_cons e63_ok spOk_nil) fun62 false 100 (H := hSR l 56 cap t0 o0 b.t) (by kernel_rfl) (fun p hp => by rw [(List.mem_replicate.1 hp).2]; exact h56) (by kernel_rfl) hh
        rw [ofW_eq h256] at h
        exact h
      · cases ho
    · cases ho
  · cases ho
theorem fun38 : Fun Tryz.prog 38 Tryz.f38 := ⟨Tryz.func38, by kernel_rfl, by kernel_rfl⟩
def e38 : Ent := ⟨38, fun args V _ => match args with
  | [.g (.a (.s k 56 _))] => match rowV V 56 k with
    | some (l, ob) => some ⟨.tup [.agg [.e (ofE l)], .a (.v (.int .i64 0))], [], Bytes256 l :: ob⟩
    | none => none
  | _ => none⟩
theorem e38_ok : EntOk Tryz.prog e38 := fun args V kn o ho hob w0 ρ w H hR hV g1 g2 g3 => by
  unfold e38 at ho
  simp only at ho
  split at ho
  · rename_i k cap
    split at ho
    · rename_i l ob hl
      obtain rfl := Option.some.inj ho
      have h256 : Bytes256 l := hob _ (List.mem_cons_self ..)
      obtain ⟨b, hk, h56, hf⟩ := rowV_spec hl (fun p hp => hob p (List.mem_cons_of_mem _ hp))
      refine does_ref hR ?_
      have hh : ∀ i b', lk [some (rowBlk l b.t)] i = some b' → Holds (fun _ => ρ k) w i b' ∧ (ρ k).1 < w.heap.size := fun i b' hi => by
        match i, hi with
        | 0, hi => obtain rfl := Option.some.inj hi; exact row_holds hR (hV _ _ hk) hf (fun _ => ρ k) 0 rfl
      exact read_run (args := [.g (.a (.s 0 56 cap))]) (r := .tup [.agg [.e (ofE l)], .a (.v (.int .i64 0))]) (ob := [Bytes256 l, l.length = 56]) hm (spOk_cons e62_63_ok spOk_nil) fun38 false 100 (H := [some (rowBlk l b.t)]) (by kernel_rfl)
        (fun p hp => by
          simp only [List.mem_cons, List.not_mem_nil, or_false] at hp
          rcases hp with rfl | rfl
          · exact h256
          · exact h56) (by kernel_rfl) hh
    · cases ho
  · cases ho
end Go.Proofs.YtkiaodihfofbnaaGreatDoor.X
