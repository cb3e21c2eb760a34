/- X448 of a secret number and a point's u is the u of that number times the point (the law TopCurves): part 5 of 22 of its proof: elements: the product. No condition. -/
import Derived.Test.YtkiaodihfofbnaaGreatDoorM03
set_option linter.unusedVariables false
set_option linter.unusedSimpArgs false
namespace Go.Proofs.YtkiaodihfofbnaaGreatDoor.X
open Go Go.RowKit

def foldW (c0 c1 c2 c3 c4 c5 c6 c7 c8 c9 c10 c11 c12 c13 c14 : Nat) : L8 :=
  let f0 := c6 + c14
  let f1 := c10 + c14
  let f2 := c5 + c13
  let f3 := c9 + c13
  let f4 := c4 + c12
  let f5 := c8 + c12
  let f6 := c3 + c11
  let f7 := c7 + c11
  let f8 := c2 + f1
  let f9 := f0 + f1
  let f10 := c1 + f3
  let f11 := f2 + f3
  let f12 := c0 + f5
  let f13 := f4 + f5
  let n0 := f12 + 0
  let o0 := n0 % 340282366920938463463374607431768211456 / 72057594037927936
  let n1 := f10 + o0
  let o1 := n1 % 340282366920938463463374607431768211456 / 72057594037927936
  let n2 := f8 + o1
  let o2 := n2 % 340282366920938463463374607431768211456 / 72057594037927936
  let n3 := f6 + o2
  let o3 := n3 % 340282366920938463463374607431768211456 / 72057594037927936
  let n4 := f13 + o3
  let o4 := n4 % 340282366920938463463374607431768211456 / 72057594037927936
  let n5 := f11 + o4
  let o5 := n5 % 340282366920938463463374607431768211456 / 72057594037927936
  let n6 := f9 + o5
  let o6 := n6 % 340282366920938463463374607431768211456 / 72057594037927936
  let n7 := f7 + o6
  let o7 := n7 % 340282366920938463463374607431768211456 / 72057594037927936
  let low : Int := mk (o7 % 18446744073709551616 : Nat)
  let high : Int := ((o7 % 340282366920938463463374607431768211456 / 72057594037927936) % 18446744073709551616 : Nat)
  ⟨ad (mk (n0 % 18446744073709551616 : Nat)) low, ad (mk (n1 % 18446744073709551616 : Nat)) high, mk (n2 % 18446744073709551616 : Nat), mk (n3 % 18446744073709551616 : Nat), ad (mk (n4 % 18446744073709551616 : Nat)) low, ad (mk (n5 % 18446744073709551616 : Nat)) high, mk (n6 % 18446744073709551616 : Nat), mk (n7 % 18446744073709551616 : Nat)⟩
def foldN (c0 c1 c2 c3 c4 c5 c6 c7 c8 c9 c10 c11 c12 c13 c14 : Nat) : N8 :=
  let f0 := c6 + c14
  let f1 := c10 + c14
  let f2 := c5 + c13
  let f3 := c9 + c13
  let f4 := c4 + c12
  let f5 := c8 + c12
  let f6 := c3 + c11
  let f7 := c7 + c11
  let f8 := c2 + f1
  let f9 := f0 + f1
  let f10 := c1 + f3
  let f11 := f2 + f3
  let f12 := c0 + f5
  let f13 := f4 + f5
  let n0 := f12 + 0
  let o0 := n0 / 72057594037927936
  let n1 := f10 + o0
  let o1 := n1 / 72057594037927936
  let n2 := f8 + o1
  let o2 := n2 / 72057594037927936
  let n3 := f6 + o2
  let o3 := n3 / 72057594037927936
  let n4 := f13 + o3
  let o4 := n4 / 72057594037927936
  let n5 := f11 + o4
  let o5 := n5 / 72057594037927936
  let n6 := f9 + o5
  let o6 := n6 / 72057594037927936
  let n7 := f7 + o6
  let o7 := n7 / 72057594037927936
  let low := o7 % 72057594037927936
  let high := o7 / 72057594037927936
  ⟨n0 % 72057594037927936 + low, n1 % 72057594037927936 + high, n2 % 72057594037927936, n3 % 72057594037927936, n4 % 72057594037927936 + low, n5 % 72057594037927936 + high, n6 % 72057594037927936, n7 % 72057594037927936⟩
theorem foldW_nat {c0 c1 c2 c3 c4 c5 c6 c7 c8 c9 c10 c11 c12 c13 c14 : Nat} (h0 : c0 < 1329227995784915872903807060280344576) (h1 : c1 < 1329227995784915872903807060280344576) (h2 : c2 < 1329227995784915872903807060280344576) (h3 : c3 < 1329227995784915872903807060280344576) (h4 : c4 < 1329227995784915872903807060280344576) (h5 : c5 < 1329227995784915872903807060280344576) (h6 : c6 < 1329227995784915872903807060280344576) (h7 : c7 < 1329227995784915872903807060280344576) (h8 : c8 < 1329227995784915872903807060280344576) (h9 : c9 < 1329227995784915872903807060280344576) (h10 : c10 < 1329227995784915872903807060280344576) (h11 : c11 < 1329227995784915872903807060280344576) (h12 : c12 < 1329227995784915872903807060280344576) (h13 : c13 < 1329227995784915872903807060280344576) (h14 : c14 < 1329227995784915872903807060280344576) : foldW c0 c1 c2 c3 c4 c5 c6 c7 c8 c9 c10 c11 c12 c13 c14 = (foldN c0 c1 c2 c3 c4 c5 c6 c7 c8 c9 c10 c11 c12 c13 c14).w ∧ (foldN c0 c1 c2 c3 c4 c5 c6 c7 c8 c9 c10 c11 c12 c13 c14).lt 288230376151711744 := by
  simp only [foldW, foldN, N8.w, N8.lt]
  obtain ⟨f0, hf0⟩ : ∃ f, c6 + c14 = f := ⟨_, rfl⟩
  rw [hf0]
  have g0 : f0 < 2658455991569831745807614120560689152 := by rw [← hf0]; omega
  clear hf0
  obtain ⟨f1, hf1⟩ : ∃ f, c10 + c14 = f := ⟨_, rfl⟩
  rw [hf1]
  have g1 : f1 < 2658455991569831745807614120560689152 := by rw [← hf1]; omega
  clear hf1
  obtain ⟨f2, hf2⟩ : ∃ f, c5 + c13 = f := ⟨_, rfl⟩
  rw [hf2]
  have g2 : f2 < 2658455991569831745807614120560689152 := by rw [← hf2]; omega
  clear hf2
  obtain ⟨f3, hf3⟩ : ∃ f, c9 + c13 = f := ⟨_, rfl⟩
  rw [hf3]
  have g3 : f3 < 2658455991569831745807614120560689152 := by rw [← hf3]; omega
  clear hf3
  obtain ⟨f4, hf4⟩ : ∃ f, c4 + c12 = f := ⟨_, rfl⟩
  rw [hf4]
  have g4 : f4 < 2658455991569831745807614120560689152 := by rw [← hf4]; omega
  clear hf4
  obtain ⟨f5, hf5⟩ : ∃ f, c8 + c12 = f := ⟨_, rfl⟩
  rw [hf5]
  have g5 : f5 < 2658455991569831745807614120560689152 := by rw [← hf5]; omega
  clear hf5
  obtain ⟨f6, hf6⟩ : ∃ f, c3 + c11 = f := ⟨_, rfl⟩
  rw [hf6]
  have g6 : f6 < 2658455991569831745807614120560689152 := by rw [← hf6]; omega
  clear hf6
  obtain ⟨f7, hf7⟩ : ∃ f, c7 + c11 = f := ⟨_, rfl⟩
  rw [hf7]
  have g7 : f7 < 2658455991569831745807614120560689152 := by rw [← hf7]; omega
  clear hf7
  obtain ⟨f8, hf8⟩ : ∃ f, c2 + f1 = f := ⟨_, rfl⟩
  rw [hf8]
  have g8 : f8 < 3987683987354747618711421180841033728 := by rw [← hf8]; omega
  clear hf8
  obtain ⟨f9, hf9⟩ : ∃ f, f0 + f1 = f := ⟨_, rfl⟩
  rw [hf9]
  have g9 : f9 < 5316911983139663491615228241121378304 := by rw [← hf9]; omega
  clear hf9
  obtain ⟨f10, hf10⟩ : ∃ f, c1 + f3 = f := ⟨_, rfl⟩
  rw [hf10]
  have g10 : f10 < 3987683987354747618711421180841033728 := by rw [← hf10]; omega
  clear hf10
  obtain ⟨f11, hf11⟩ : ∃ f, f2 + f3 = f := ⟨_, rfl⟩
  rw [hf11]
  have g11 : f11 < 5316911983139663491615228241121378304 := by rw [← hf11]; omega
  clear hf11
  obtain ⟨f12, hf12⟩ : ∃ f, c0 + f5 = f := ⟨_, rfl⟩
  rw [hf12]
  have g12 : f12 < 3987683987354747618711421180841033728 := by rw [← hf12]; omega
  clear hf12
  obtain ⟨f13, hf13⟩ : ∃ f, f4 + f5 = f := ⟨_, rfl⟩
  rw [hf13]
  have g13 : f13 < 5316911983139663491615228241121378304 := by rw [← hf13]; omega
  clear hf13
  simp only [Nat.add_zero]
  have b0 : f12 < 170141183460469231731687303715884105728 := by omega
  rw [Nat.mod_eq_of_lt (Nat.lt_trans b0 (by decide) : f12 < 340282366920938463463374607431768211456)]
  have ho0 : f12 / 72057594037927936 < 2361183241434822606848 := Nat.div_lt_of_lt_mul b0
  have hq0 : mk ((f12 % 18446744073709551616 : Nat) : Int) = ((f12 % 72057594037927936 : Nat) : Int) := by rw [mk_nat (Nat.mod_lt _ (by decide)), Nat.mod_mod_of_dvd _ (by decide)]
  have hr0 : f12 % 72057594037927936 < 72057594037927936 := Nat.mod_lt _ (by decide)
  rw [hq0]; clear hq0
  generalize f12 % 72057594037927936 = r0 at *
  generalize f12 / 72057594037927936 = o0 at *
  obtain ⟨n1, hn1⟩ : ∃ f, f10 + o0 = f := ⟨_, rfl⟩
  rw [hn1]
  have b1 : n1 < 170141183460469231731687303715884105728 := by rw [← hn1]; omega
  clear hn1
  rw [Nat.mod_eq_of_lt (Nat.lt_trans b1 (by decide) : n1 < 340282366920938463463374607431768211456)]
  have ho1 : n1 / 72057594037927936 < 2361183241434822606848 := Nat.div_lt_of_lt_mul b1
  have hq1 : mk ((n1 % 18446744073709551616 : Nat) : Int) = ((n1 % 72057594037927936 : Nat) : Int) := by rw [mk_nat (Nat.mod_lt _ (by decide)), Nat.mod_mod_of_dvd _ (by decide)]
  have hr1 : n1 % 72057594037927936 < 72057594037927936 := Nat.mod_lt _ (by decide)
  rw [hq1]; clear hq1
  generalize n1 % 72057594037927936 = r1 at *
  generalize n1 / 72057594037927936 = o1 at *
  obtain ⟨n2, hn2⟩ : ∃ f, f8 + o1 = f := ⟨_, rfl⟩
  rw [hn2]
  have b2 : n2 < 170141183460469231731687303715884105728 := by rw [← hn2]; omega
  clear hn2
  rw [Nat.mod_eq_of_lt (Nat.lt_trans b2 (by decide) : n2 < 340282366920938463463374607431768211456)]
  have ho2 : n2 / 72057594037927936 < 2361183241434822606848 := Nat.div_lt_of_lt_mul b2
  have hq2 : mk ((n2 % 18446744073709551616 : Nat) : Int) = ((n2 % 72057594037927936 : Nat) : Int) := by rw [mk_nat (Nat.mod_lt _ (by decide)), Nat.mod_mod_of_dvd _ (by decide)]
  have hr2 : n2 % 72057594037927936 < 72057594037927936 := Nat.mod_lt _ (by decide)
  rw [hq2]; clear hq2
  generalize n2 % 72057594037927936 = r2 at *
  generalize n2 / 72057594037927936 = o2 at *
  obtain ⟨n3, hn3⟩ : ∃ f, f6 + o2 = f := ⟨_, rfl⟩
  rw [hn3]
  have b3 : n3 < 170141183460469231731687303715884105728 := by rw [← hn3]; omega
  clear hn3
  rw [Nat.mod_eq_of_lt (Nat.lt_trans b3 (by decide) : n3 < 340282366920938463463374607431768211456)]
  have ho3 : n3 / 72057594037927936 < 2361183241434822606848 := Nat.div_lt_of_lt_mul b3
  have hq3 : mk ((n3 % 18446744073709551616 : Nat) : Int) = ((n3 % 72057594037927936 : Nat) : Int) := by rw [mk_nat (Nat.mod_lt _ (by decide)), Nat.mod_mod_of_dvd _ (by decide)]
  have hr3 : n3 % 72057594037927936 < 72057594037927936 := Nat.mod_lt _ (by decide)
  rw [hq3]; clear hq3
  generalize n3 % 72057594037927936 = r3 at *
  generalize n3 / 72057594037927936 = o3 at *
  obtain ⟨n4, hn4⟩ : ∃ f, f13 + o3 = f := ⟨_, rfl⟩
  rw [hn4]
  have b4 : n4 < 170141183460469231731687303715884105728 := by rw [← hn4]; omega
  clear hn4
  rw [Nat.mod_eq_of_lt (Nat.lt_trans b4 (by decide) : n4 < 340282366920938463463374607431768211456)]
  have ho4 : n4 / 72057594037927936 < 2361183241434822606848 := Nat.div_lt_of_lt_mul b4
  have hq4 : mk ((n4 % 18446744073709551616 : Nat) : Int) = ((n4 % 72057594037927936 : Nat) : Int) := by rw [mk_nat (Nat.mod_lt _ (by decide)), Nat.mod_mod_of_dvd _ (by decide)]
  have hr4 : n4 % 72057594037927936 < 72057594037927936 := Nat.mod_lt _ (by decide)
  rw [hq4]; clear hq4
  generalize n4 % 72057594037927936 = r4 at *
  generalize n4 / 72057594037927936 = o4 at *
  obtain ⟨n5, hn5⟩ : ∃ f, f11 + o4 = f := ⟨_, rfl⟩
  rw [hn5]
  have b5 : n5 < 170141183460469231731687303715884105728 := by rw [← hn5]; omega
  clear hn5
  rw [Nat.mod_eq_of_lt (Nat.lt_trans b5 (by decide) : n5 < 340282366920938463463374607431768211456)]
  have ho5 : n5 / 72057594037927936 < 2361183241434822606848 := Nat.div_lt_of_lt_mul b5
  have hq5 : mk ((n5 % 18446744073709551616 : Nat) : Int) = ((n5 % 72057594037927936 : Nat) : Int) := by rw [mk_nat (Nat.mod_lt _ (by decide)), Nat.mod_mod_of_dvd _ (by decide)]
  have hr5 : n5 % 72057594037927936 < 72057594037927936 := Nat.mod_lt _ (by decide)
  rw [hq5]; clear hq5
  generalize n5 % 72057594037927936 = r5 at *
  generalize n5 / 72057594037927936 = o5 at *
  obtain ⟨n6, hn6⟩ : ∃ f, f9 + o5 = f := ⟨_, rfl⟩
  rw [hn6]
  have b6 : n6 < 170141183460469231731687303715884105728 := by rw [← hn6]; omega
  clear hn6
  rw [Nat.mod_eq_of_lt (Nat.lt_trans b6 (by decide) : n6 < 340282366920938463463374607431768211456)]
  have ho6 : n6 / 72057594037927936 < 2361183241434822606848 := Nat.div_lt_of_lt_mul b6
  have hq6 : mk ((n6 % 18446744073709551616 : Nat) : Int) = ((n6 % 72057594037927936 : Nat) : Int) := by rw [mk_nat (Nat.mod_lt _ (by decide)), Nat.mod_mod_of_dvd _ (by decide)]
  have hr6 : n6 % 72057594037927936 < 72057594037927936 := Nat.mod_lt _ (by decide)
  rw [hq6]; clear hq6
  generalize n6 % 72057594037927936 = r6 at *
  generalize n6 / 72057594037927936 = o6 at *
  obtain ⟨n7, hn7⟩ : ∃ f, f7 + o6 = f := ⟨_, rfl⟩
  rw [hn7]
  have b7 : n7 < 170141183460469231731687303715884105728 := by rw [← hn7]; omega
  clear hn7
  rw [Nat.mod_eq_of_lt (Nat.lt_trans b7 (by decide) : n7 < 340282366920938463463374607431768211456)]
  have ho7 : n7 / 72057594037927936 < 2361183241434822606848 := Nat.div_lt_of_lt_mul b7
  have hq7 : mk ((n7 % 18446744073709551616 : Nat) : Int) = ((n7 % 72057594037927936 : Nat) : Int) := by rw [mk_nat (Nat.mod_lt _ (by decide)), Nat.mod_mod_of_dvd _ (by decide)]
  have hr7 : n7 % 72057594037927936 < 72057594037927936 := Nat.mod_lt _ (by decide)
  rw [hq7]; clear hq7
  generalize n7 % 72057594037927936 = r7 at *
  generalize n7 / 72057594037927936 = o7 at *
  have hl : mk ((o7 % 18446744073709551616 : Nat) : Int) = ((o7 % 72057594037927936 : Nat) : Int) := by rw [mk_nat (Nat.mod_lt _ (by decide)), Nat.mod_mod_of_dvd _ (by decide)]
  have hh : o7 / 72057594037927936 < 32768 := Nat.div_lt_of_lt_mul ho7
  have hl2 : o7 % 72057594037927936 < 72057594037927936 := Nat.mod_lt _ (by decide)
  rw [hl, Nat.mod_eq_of_lt (Nat.lt_trans ho7 (by decide) : o7 < 340282366920938463463374607431768211456), Nat.mod_eq_of_lt (Nat.lt_trans hh (by decide) : o7 / 72057594037927936 < 18446744073709551616)]
  clear hl
  generalize o7 % 72057594037927936 = low at *
  generalize o7 / 72057594037927936 = high at *
  clear h0 h1 h2 h3 h4 h5 h6 h7 h8 h9 h10 h11 h12 h13 h14 g0 g1 g2 g3 g4 g5 g6 g7 g8 g9 g10 g11 g12 g13 b0 b1 b2 b3 b4 b5 b6 b7 ho0 ho1 ho2 ho3 ho4 ho5 ho6 ho7
  rw [ad_nat (by omega), ad_nat (by omega), ad_nat (by omega), ad_nat (by omega)]
  refine ⟨rfl, ?_⟩
  omega
theorem foldN_val (c0 c1 c2 c3 c4 c5 c6 c7 c8 c9 c10 c11 c12 c13 c14 : Nat) : ∃ o, c0 + 72057594037927936 * c1 + 5192296858534827628530496329220096 * c2 + 374144419156711147060143317175368453031918731001856 * c3 + 26959946667150639794667015087019630673637144422540572481103610249216 * c4 + 1942668892225729070919461906823518906642406839052139521251812409738904285205208498176 * c5 + 139984046386112763159840142535527767382602843577165595931249318810236991948760059086304843329475444736 * c6 + 10086913586276986678343434265636765134100413253239154346994763111486904773503285916522052161250538404046496765518544896 * c7 + 726838724295606890549323807888004534353641360687318060281490199180639288113397923326191050713763565560762521606266177933534601628614656 * c8 + 52374249726338269920211035149241586435466272736689036631732661889538140742474792878132321477214466514414186946040961136147476104734166288853256441430016 * c9 + 3773962424821541352241554580988268890916921220416440428376206300245624162392148852086126725177658767541468375030763844899770584629924792632561434251432696043649395326976 * c10 + 271942652322184754529069161754863937192751676276240344678115398758606622648756348282451201159797394262471336696958208519857448620878186106577674229128492724195241610667721328144244801536 * c11 + 19595533242629369747791401605606558418088927130487463844933662202465281465266200982457647235235528838735010358900495684567911298014908298340170885513171109743249504533143507682501017145381579984990109696 * c12 + 1412006979354108748474554421102313931675676955925788762341700965431346915180599249952936960497614998485448932749141998289061648432939195473813276544243473053215398045741358060286316036246351763861878679739417265182867456 * c13 + 101745825697019260773923519755878567461315282017759829107608914364075275235254395622580447400994175578963163918967182013639660669771108475957692810857098847138903161308502419410142185759152435680068435915159402496058513611411689167650816 * c14 = (foldN c0 c1 c2 c3 c4 c5 c6 c7 c8 c9 c10 c11 c12 c13 c14).val + o * pp := by
  simp only [foldN, N8.val]
  generalize hf0 : c6 + c14 = f0
  generalize hf1 : c10 + c14 = f1
  generalize hf2 : c5 + c13 = f2
  generalize hf3 : c9 + c13 = f3
  generalize hf4 : c4 + c12 = f4
  generalize hf5 : c8 + c12 = f5
  generalize hf6 : c3 + c11 = f6
  generalize hf7 : c7 + c11 = f7
  generalize hf8 : c2 + f1 = f8
  generalize hf9 : f0 + f1 = f9
  generalize hf10 : c1 + f3 = f10
  generalize hf11 : f2 + f3 = f11
  generalize hf12 : c0 + f5 = f12
  generalize hf13 : f4 + f5 = f13
  have d0 := Nat.div_add_mod f12 72057594037927936
  generalize f12 / 72057594037927936 = o0 at *
  generalize f12 % 72057594037927936 = r0 at *
  generalize hn1 : f10 + o0 = n1
  have d1 := Nat.div_add_mod n1 72057594037927936
  generalize n1 / 72057594037927936 = o1 at *
  generalize n1 % 72057594037927936 = r1 at *
  generalize hn2 : f8 + o1 = n2
  have d2 := Nat.div_add_mod n2 72057594037927936
  generalize n2 / 72057594037927936 = o2 at *
  generalize n2 % 72057594037927936 = r2 at *
  generalize hn3 : f6 + o2 = n3
  have d3 := Nat.div_add_mod n3 72057594037927936
  generalize n3 / 72057594037927936 = o3 at *
  generalize n3 % 72057594037927936 = r3 at *
  generalize hn4 : f13 + o3 = n4
  have d4 := Nat.div_add_mod n4 72057594037927936
  generalize n4 / 72057594037927936 = o4 at *
  generalize n4 % 72057594037927936 = r4 at *
  generalize hn5 : f11 + o4 = n5
  have d5 := Nat.div_add_mod n5 72057594037927936
  generalize n5 / 72057594037927936 = o5 at *
  generalize n5 % 72057594037927936 = r5 at *
  generalize hn6 : f9 + o5 = n6
  have d6 := Nat.div_add_mod n6 72057594037927936
  generalize n6 / 72057594037927936 = o6 at *
  generalize n6 % 72057594037927936 = r6 at *
  generalize hn7 : f7 + o6 = n7
  have d7 := Nat.div_add_mod n7 72057594037927936
  generalize n7 / 72057594037927936 = o7 at *
  generalize n7 % 72057594037927936 = r7 at *
  refine ⟨2 ^ 336 * c14 + 2 ^ 280 * c13 + 2 ^ 224 * c12 + 2 ^ 168 * c11 + 2 ^ 112 * (c10 + c14) + 2 ^ 56 * (c9 + c13) + (c8 + c12) + o7, ?_⟩
  have d8 := Nat.div_add_mod o7 72057594037927936
  generalize o7 / 72057594037927936 = o8 at *
  generalize o7 % 72057594037927936 = r8 at *
  unfold pp
  omega
theorem mulW_fold (x y : El) : mulW x y = foldW (0 + mulN x.a0 y.a0) (0 + mulN x.a0 y.a1 + mulN x.a1 y.a0) (0 + mulN x.a0 y.a2 + mulN x.a1 y.a1 + mulN x.a2 y.a0) (0 + mulN x.a0 y.a3 + mulN x.a1 y.a2 + mulN x.a2 y.a1 + mulN x.a3 y.a0) (0 + mulN x.a0 y.a4 + mulN x.a1 y.a3 + mulN x.a2 y.a2 + mulN x.a3 y.a1 + mulN x.a4 y.a0) (0 + mulN x.a0 y.a5 + mulN x.a1 y.a4 + mulN x.a2 y.a3 + mulN x.a3 y.a2 + mulN x.a4 y.a1 + mulN x.a5 y.a0) (0 + mulN x.a0 y.a6 + mulN x.a1 y.a5 + mulN x.a2 y.a4 + mulN x.a3 y.a3 + mulN x.a4 y.a2 + mulN x.a5 y.a1 + mulN x.a6 y.a0) (0 + mulN x.a0 y.a7 + mulN x.a1 y.a6 + mulN x.a2 y.a5 + mulN x.a3 y.a4 + mulN x.a4 y.a3 + mulN x.a5 y.a2 + mulN x.a6 y.a1 + mulN x.a7 y.a0) (0 + mulN x.a1 y.a7 + mulN x.a2 y.a6 + mulN x.a3 y.a5 + mulN x.a4 y.a4 + mulN x.a5 y.a3 + mulN x.a6 y.a2 + mulN x.a7 y.a1) (0 + mulN x.a2 y.a7 + mulN x.a3 y.a6 + mulN x.a4 y.a5 + mulN x.a5 y.a4 + mulN x.a6 y.a3 + mulN x.a7 y.a2) (0 + mulN x.a3 y.a7 + mulN x.a4 y.a6 + mulN x.a5 y.a5 + mulN x.a6 y.a4 + mulN x.a7 y.a3) (0 + mulN x.a4 y.a7 + mulN x.a5 y.a6 + mulN x.a6 y.a5 + mulN x.a7 y.a4) (0 + mulN x.a5 y.a7 + mulN x.a6 y.a6 + mulN x.a7 y.a5) (0 + mulN x.a6 y.a7 + mulN x.a7 y.a6) (0 + mulN x.a7 y.a7) := rfl
theorem mulN_nat {a b : Nat} (ha : a < 18446744073709551616) (hb : b < 18446744073709551616) : mulN a b = a * b := by
  obtain ⟨h1, h2, h3, h4⟩ := Lib.mul64_hi a b ha hb
  have p1 := Lib.half_mul_le (a := a / 4294967296) (b := b / 4294967296) (by omega) (by omega)
  have p2 := Lib.half_mul_le (a := a / 4294967296) (b := b % 4294967296) (by omega) (by omega)
  have p3 := Lib.half_mul_le (a := a % 4294967296) (b := b / 4294967296) (by omega) (by omega)
  have hlt : a * b < 18446744073709551616 * 18446744073709551616 := Nat.mul_lt_mul'' ha hb
  have e1 : ∀ n : Nat, sh32 n = ((n / 4294967296 : Nat) : Int) := fun n => by
    unfold sh32
    rw [show ((2 : Int) ^ 32) = ((4294967296 : Nat) : Int) from rfl, Int.fdiv_eq_ediv_of_nonneg _ (by omega), Int.natCast_ediv]
  have e2 : ∀ n : Nat, n < 18446744073709551616 → mk32 n = ((n % 4294967296 : Nat) : Int) := fun n hn => by
    have := an_nat (a := n) (b := 4294967295) hn (by omega)
    rw [show (4294967295 : Nat) = 2 ^ 32 - 1 from rfl, Nat.and_two_pow_sub_one_eq_mod] at this
    exact this
  have e3 : ml (a : Int) (b : Int) = ((a * b % 18446744073709551616 : Nat) : Int) := by
    unfold ml IntKind.wrap
    simp only [IntKind.bits, IntKind.signed]
    simp only [Bool.false_and, Bool.false_eq_true, if_false]
    rw [show ((2 : Int) ^ 64) = ((18446744073709551616 : Nat) : Int) from rfl, ← Int.natCast_mul, ← Int.natCast_emod]
  unfold mulN mulHi mulT
  rw [e3, e2 a ha, e2 b hb, e1 a, e1 b]
  rw [ml_nat (a := a / 4294967296) (b := b / 4294967296) (by omega)]
  generalize (a / 4294967296) * (b / 4294967296) = q1 at *
  rw [ml_nat (a := a % 4294967296) (b := b % 4294967296) h1, e1]
  generalize (a % 4294967296) * (b % 4294967296) = q4 at *
  rw [ml_nat (a := a / 4294967296) (b := b % 4294967296) (by omega)]
  generalize (a / 4294967296) * (b % 4294967296) = q2 at *
  rw [ml_nat (a := a % 4294967296) (b := b / 4294967296) (by omega)]
  generalize (a % 4294967296) * (b / 4294967296) = q3 at *
  rw [ad_nat (a := q2) (b := q4 / 4294967296) (by omega)]
  generalize ht : q2 + q4 / 4294967296 = t at *
  rw [e1 t, e2 t (by omega), ad_nat (a := t % 4294967296) (b := q3) (by omega), e1, ad_nat (a := q1) (b := t / 4294967296) (by omega), ad_nat (by omega), h4, Int.toNat_natCast, Int.toNat_natCast]
  have := Nat.div_add_mod (a * b) 18446744073709551616
  omega
def mulZ (x y : N8) : N8 := foldN (0 + x.a0 * y.a0) (0 + x.a0 * y.a1 + x.a1 * y.a0) (0 + x.a0 * y.a2 + x.a1 * y.a1 + x.a2 * y.a0) (0 + x.a0 * y.a3 + x.a1 * y.a2 + x.a2 * y.a1 + x.a3 * y.a0) (0 + x.a0 * y.a4 + x.a1 * y.a3 + x.a2 * y.a2 + x.a3 * y.a1 + x.a4 * y.a0) (0 + x.a0 * y.a5 + x.a1 * y.a4 + x.a2 * y.a3 + x.a3 * y.a2 + x.a4 * y.a1 + x.a5 * y.a0) (0 + x.a0 * y.a6 + x.a1 * y.a5 + x.a2 * y.a4 + x.a3 * y.a3 + x.a4 * y.a2 + x.a5 * y.a1 + x.a6 * y.a0) (0 + x.a0 * y.a7 + x.a1 * y.a6 + x.a2 * y.a5 + x.a3 * y.a4 + x.a4 * y.a3 + x.a5 * y.a2 + x.a6 * y.a1 + x.a7 * y.a0) (0 + x.a1 * y.a7 + x.a2 * y.a6 + x.a3 * y.a5 + x.a4 * y.a4 + x.a5 * y.a3 + x.a6 * y.a2 + x.a7 * y.a1) (0 + x.a2 * y.a7 + x.a3 * y.a6 + x.a4 * y.a5 + x.a5 * y.a4 + x.a6 * y.a3 + x.a7 * y.a2) (0 + x.a3 * y.a7 + x.a4 * y.a6 + x.a5 * y.a5 + x.a6 * y.a4 + x.a7 * y.a3) (0 + x.a4 * y.a7 + x.a5 * y.a6 + x.a6 * y.a5 + x.a7 * y.a4) (0 + x.a5 * y.a7 + x.a6 * y.a6 + x.a7 * y.a5) (0 + x.a6 * y.a7 + x.a7 * y.a6) (0 + x.a7 * y.a7)
theorem prod_lt {a b : Nat} (ha : a < 72057594037928192) (hb : b < 72057594037928192) : a * b < 10384593717069655257060992658440192 := Nat.lt_of_lt_of_le (Nat.mul_lt_mul'' ha hb) (by decide)
theorem mulZ_eq (x y : El) : mulW x y = (mulZ x.n y.n).w ∧ (mulZ x.n y.n).lt 288230376151711744 := by
  rw [mulW_fold]
  obtain ⟨x0, x1, x2, x3, x4, x5, x6, x7⟩ := x.ok
  obtain ⟨y0, y1, y2, y3, y4, y5, y6, y7⟩ := y.ok
  rw [mulN_nat (a := x.a0) (b := y.a0) (by omega) (by omega)]
  rw [mulN_nat (a := x.a0) (b := y.a1) (by omega) (by omega)]
  rw [mulN_nat (a := x.a0) (b := y.a2) (by omega) (by omega)]
  rw [mulN_nat (a := x.a0) (b := y.a3) (by omega) (by omega)]
  rw [mulN_nat (a := x.a0) (b := y.a4) (by omega) (by omega)]
  rw [mulN_nat (a := x.a0) (b := y.a5) (by omega) (by omega)]
  rw [mulN_nat (a := x.a0) (b := y.a6) (by omega) (by omega)]
  rw [mulN_nat (a := x.a0) (b := y.a7) (by omega) (by omega)]
  rw [mulN_nat (a := x.a1) (b := y.a0) (by omega) (by omega)]
  rw [mulN_nat (a := x.a1) (b := y.a1) (by omega) (by omega)]
  rw [mulN_nat (a := x.a1) (b := y.a2) (by omega) (by omega)]
  rw [mulN_nat (a := x.a1) (b := y.a3) (by omega) (by omega)]
  rw [mulN_nat (a := x.a1) (b := y.a4) (by omega) (by omega)]
  rw [mulN_nat (a := x.a1) (b := y.a5) (by omega) (by omega)]
  rw [mulN_nat (a := x.a1) (b := y.a6) (by omega) (by omega)]
  rw [mulN_nat (a := x.a1) (b := y.a7) (by omega) (by omega)]
  rw [mulN_nat (a := x.a2) (b := y.a0) (by omega) (by omega)]
  rw [mulN_nat (a := x.a2) (b := y.a1) (by omega) (by omega)]
  rw [mulN_nat (a := x.a2) (b := y.a2) (by omega) (by omega)]
  rw [mulN_nat (a := x.a2) (b := y.a3) (by omega) (by omega)]
  rw [mulN_nat (a := x.a2) (b := y.a4) (by omega) (by omega)]
  rw [mulN_nat (a := x.a2) (b := y.a5) (by omega) (by omega)]
  rw [mulN_nat (a := x.a2) (b := y.a6) (by omega) (by omega)]
  rw [mulN_nat (a := x.a2) (b := y.a7) (by omega) (by omega)]
  rw [mulN_nat (a := x.a3) (b := y.a0) (by omega) (by omega)]
  rw [mulN_nat (a := x.a3) (b := y.a1) (by omega) (by omega)]
  rw [mulN_nat (a := x.a3) (b := y.a2) (by omega) (by omega)]
  rw [mulN_nat (a := x.a3) (b := y.a3) (by omega) (by omega)]
  rw [mulN_nat (a := x.a3) (b := y.a4) (by omega) (by omega)]
  rw [mulN_nat (a := x.a3) (b := y.a5) (by omega) (by omega)]
  rw [mulN_nat (a := x.a3) (b := y.a6) (by omega) (by omega)]
  rw [mulN_nat (a := x.a3) (b := y.a7) (by omega) (by omega)]
  rw [mulN_nat (a := x.a4) (b := y.a0) (by omega) (by omega)]
  rw [mulN_nat (a := x.a4) (b := y.a1) (by omega) (by omega)]
  rw [mulN_nat (a := x.a4) (b := y.a2) (by omega) (by omega)]
  rw [mulN_nat (a := x.a4) (b := y.a3) (by omega) (by omega)]
  rw [mulN_nat (a := x.a4) (b := y.a4) (by omega) (by omega)]
  rw [mulN_nat (a := x.a4) (b := y.a5) (by omega) (by omega)]
  rw [mulN_nat (a := x.a4) (b := y.a6) (by omega) (by omega)]
  rw [mulN_nat (a := x.a4) (b := y.a7) (by omega) (by omega)]
  rw [mulN_nat (a := x.a5) (b := y.a0) (by omega) (by omega)]
  rw [mulN_nat (a := x.a5) (b := y.a1) (by omega) (by omega)]
  rw [mulN_nat (a := x.a5) (b := y.a2) (by omega) (by omega)]
  rw [mulN_nat (a := x.a5) (b := y.a3) (by omega) (by omega)]
  rw [mulN_nat (a := x.a5) (b := y.a4) (by omega) (by omega)]
  rw [mulN_nat (a := x.a5) (b := y.a5) (by omega) (by omega)]
  rw [mulN_nat (a := x.a5) (b := y.a6) (by omega) (by omega)]
  rw [mulN_nat (a := x.a5) (b := y.a7) (by omega) (by omega)]
  rw [mulN_nat (a := x.a6) (b := y.a0) (by omega) (by omega)]
  rw [mulN_nat (a := x.a6) (b := y.a1) (by omega) (by omega)]
  rw [mulN_nat (a := x.a6) (b := y.a2) (by omega) (by omega)]
  rw [mulN_nat (a := x.a6) (b := y.a3) (by omega) (by omega)]
  rw [mulN_nat (a := x.a6) (b := y.a4) (by omega) (by omega)]
  rw [mulN_nat (a := x.a6) (b := y.a5) (by omega) (by omega)]
  rw [mulN_nat (a := x.a6) (b := y.a6) (by omega) (by omega)]
  rw [mulN_nat (a := x.a6) (b := y.a7) (by omega) (by omega)]
  rw [mulN_nat (a := x.a7) (b := y.a0) (by omega) (by omega)]
  rw [mulN_nat (a := x.a7) (b := y.a1) (by omega) (by omega)]
  rw [mulN_nat (a := x.a7) (b := y.a2) (by omega) (by omega)]
  rw [mulN_nat (a := x.a7) (b := y.a3) (by omega) (by omega)]
  rw [mulN_nat (a := x.a7) (b := y.a4) (by omega) (by omega)]
  rw [mulN_nat (a := x.a7) (b := y.a5) (by omega) (by omega)]
  rw [mulN_nat (a := x.a7) (b := y.a6) (by omega) (by omega)]
  rw [mulN_nat (a := x.a7) (b := y.a7) (by omega) (by omega)]
  have p00 := prod_lt x0 y0
  have p01 := prod_lt x0 y1
  have p02 := prod_lt x0 y2
  have p03 := prod_lt x0 y3
  have p04 := prod_lt x0 y4
  have p05 := prod_lt x0 y5
  have p06 := prod_lt x0 y6
  have p07 := prod_lt x0 y7
  have p10 := prod_lt x1 y0
  have p11 := prod_lt x1 y1
  have p12 := prod_lt x1 y2
  have p13 := prod_lt x1 y3
  have p14 := prod_lt x1 y4
  have p15 := prod_lt x1 y5
  have p16 := prod_lt x1 y6
  have p17 := prod_lt x1 y7
  have p20 := prod_lt x2 y0
  have p21 := prod_lt x2 y1
  have p22 := prod_lt x2 y2
  have p23 := prod_lt x2 y3
  have p24 := prod_lt x2 y4
  have p25 := prod_lt x2 y5
  have p26 := prod_lt x2 y6
  have p27 := prod_lt x2 y7
  have p30 := prod_lt x3 y0
  have p31 := prod_lt x3 y1
  have p32 := prod_lt x3 y2
  have p33 := prod_lt x3 y3
  have p34 := prod_lt x3 y4
  have p35 := prod_lt x3 y5
  have p36 := prod_lt x3 y6
  have p37 := prod_lt x3 y7
  have p40 := prod_lt x4 y0
  have p41 := prod_lt x4 y1
  have p42 := prod_lt x4 y2
  have p43 := prod_lt x4 y3
  have p44 := prod_lt x4 y4
  have p45 := prod_lt x4 y5
  have p46 := prod_lt x4 y6
  have p47 := prod_lt x4 y7
  have p50 := prod_lt x5 y0
  have p51 := prod_lt x5 y1
  have p52 := prod_lt x5 y2
  have p53 := prod_lt x5 y3
  have p54 := prod_lt x5 y4
  have p55 := prod_lt x5 y5
  have p56 := prod_lt x5 y6
  have p57 := prod_lt x5 y7
  have p60 := prod_lt x6 y0
  have p61 := prod_lt x6 y1
  have p62 := prod_lt x6 y2
  have p63 := prod_lt x6 y3
  have p64 := prod_lt x6 y4
  have p65 := prod_lt x6 y5
  have p66 := prod_lt x6 y6
  have p67 := prod_lt x6 y7
  have p70 := prod_lt x7 y0
  have p71 := prod_lt x7 y1
  have p72 := prod_lt x7 y2
  have p73 := prod_lt x7 y3
  have p74 := prod_lt x7 y4
  have p75 := prod_lt x7 y5
  have p76 := prod_lt x7 y6
  have p77 := prod_lt x7 y7
  clear x0 x1 x2 x3 x4 x5 x6 x7 y0 y1 y2 y3 y4 y5 y6 y7
  unfold mulZ
  exact foldW_nat (by omega) (by omega) (by omega) (by omega) (by omega) (by omega) (by omega) (by omega) (by omega) (by omega) (by omega) (by omega) (by omega) (by omega) (by omega)
theorem prod_cols (a0 a1 a2 a3 a4 a5 a6 a7 b0 b1 b2 b3 b4 b5 b6 b7 : Nat) : (a0 + 72057594037927936 * a1 + 5192296858534827628530496329220096 * a2 + 374144419156711147060143317175368453031918731001856 * a3 + 26959946667150639794667015087019630673637144422540572481103610249216 * a4 + 1942668892225729070919461906823518906642406839052139521251812409738904285205208498176 * a5 + 139984046386112763159840142535527767382602843577165595931249318810236991948760059086304843329475444736 * a6 + 10086913586276986678343434265636765134100413253239154346994763111486904773503285916522052161250538404046496765518544896 * a7) * (b0 + 72057594037927936 * b1 + 5192296858534827628530496329220096 * b2 + 374144419156711147060143317175368453031918731001856 * b3 + 26959946667150639794667015087019630673637144422540572481103610249216 * b4 + 1942668892225729070919461906823518906642406839052139521251812409738904285205208498176 * b5 + 139984046386112763159840142535527767382602843577165595931249318810236991948760059086304843329475444736 * b6 + 10086913586276986678343434265636765134100413253239154346994763111486904773503285916522052161250538404046496765518544896 * b7) = (0 + a0 * b0) + 72057594037927936 * (0 + a0 * b1 + a1 * b0) + 5192296858534827628530496329220096 * (0 + a0 * b2 + a1 * b1 + a2 * b0) + 374144419156711147060143317175368453031918731001856 * (0 + a0 * b3 + a1 * b2 + a2 * b1 + a3 * b0) + 26959946667150639794667015087019630673637144422540572481103610249216 * (0 + a0 * b4 + a1 * b3 + a2 * b2 + a3 * b1 + a4 * b0) + 1942668892225729070919461906823518906642406839052139521251812409738904285205208498176 * (0 + a0 * b5 + a1 * b4 + a2 * b3 + a3 * b2 + a4 * b1 + a5 * b0) + 139984046386112763159840142535527767382602843577165595931249318810236991948760059086304843329475444736 * (0 + a0 * b6 + a1 * b5 + a2 * b4 + a3 * b3 + a4 * b2 + a5 * b1 + a6 * b0) + 10086913586276986678343434265636765134100413253239154346994763111486904773503285916522052161250538404046496765518544896 * (0 + a0 * b7 + a1 * b6 + a2 * b5 + a3 * b4 + a4 * b3 + a5 * b2 + a6 * b1 + a7 * b0) + 726838724295606890549323807888004534353641360687318060281490199180639288113397923326191050713763565560762521606266177933534601628614656 * (0 + a1 * b7 + a2 * b6 + a3 * b5 + a4 * b4 + a5 * b3 + a6 * b2 + a7 * b1) + 52374249726338269920211035149241586435466272736689036631732661889538140742474792878132321477214466514414186946040961136147476104734166288853256441430016 * (0 + a2 * b7 + a3 * b6 + a4 * b5 + a5 * b4 + a6 * b3 + a7 * b2) + 3773962424821541352241554580988268890916921220416440428376206300245624162392148852086126725177658767541468375030763844899770584629924792632561434251432696043649395326976 * (0 + a3 * b7 + a4 * b6 + a5 * b5 + a6 * b4 + a7 * b3) + 271942652322184754529069161754863937192751676276240344678115398758606622648756348282451201159797394262471336696958208519857448620878186106577674229128492724195241610667721328144244801536 * (0 + a4 * b7 + a5 * b6 + a6 * b5 + a7 * b4) + 19595533242629369747791401605606558418088927130487463844933662202465281465266200982457647235235528838735010358900495684567911298014908298340170885513171109743249504533143507682501017145381579984990109696 * (0 + a5 * b7 + a6 * b6 + a7 * b5) + 1412006979354108748474554421102313931675676955925788762341700965431346915180599249952936960497614998485448932749141998289061648432939195473813276544243473053215398045741358060286316036246351763861878679739417265182867456 * (0 + a6 * b7 + a7 * b6) + 101745825697019260773923519755878567461315282017759829107608914364075275235254395622580447400994175578963163918967182013639660669771108475957692810857098847138903161308502419410142185759152435680068435915159402496058513611411689167650816 * (0 + a7 * b7) := by
  grind
theorem mulZ_val (x y : N8) : (mulZ x y).val % pp = x.val * y.val % pp := by
  obtain ⟨o, h⟩ := foldN_val (0 + x.a0 * y.a0) (0 + x.a0 * y.a1 + x.a1 * y.a0) (0 + x.a0 * y.a2 + x.a1 * y.a1 + x.a2 * y.a0) (0 + x.a0 * y.a3 + x.a1 * y.a2 + x.a2 * y.a1 + x.a3 * y.a0) (0 + x.a0 * y.a4 + x.a1 * y.a3 + x.a2 * y.a2 + x.a3 * y.a1 + x.a4 * y.a0) (0 + x.a0 * y.a5 + x.a1 * y.a4 + x.a2 * y.a3 + x.a3 * y.a2 + x.a4 * y.a1 + x.a5 * y.a0) (0 + x.a0 * y.a6 + x.a1 * y.a5 + x.a2 * y.a4 + x.a3 * y.a3 + x.a4 * y.a2 + x.a5 * y.a1 + x.a6 * y.a0) (0 + x.a0 * y.a7 + x.a1 * y.a6 + x.a2 * y.a5 + x.a3 * y.a4 + x.a4 * y.a3 + x.a5 * y.a2 + x.a6 * y.a1 + x.a7 * y.a0) (0 + x.a1 * y.a7 + x.a2 * y.a6 + x.a3 * y.a5 + x.a4 * y.a4 + x.a5 * y.a3 + x.a6 * y.a2 + x.a7 * y.a1) (0 + x.a2 * y.a7 + x.a3 * y.a6 + x.a4 * y.a5 + x.a5 * y.a4 + x.a6 * y.a3 + x.a7 * y.a2) (0 + x.a3 * y.a7 + x.a4 * y.a6 + x.a5 * y.a5 + x.a6 * y.a4 + x.a7 * y.a3) (0 + x.a4 * y.a7 + x.a5 * y.a6 + x.a6 * y.a5 + x.a7 * y.a4) (0 + x.a5 * y.a7 + x.a6 * y.a6 + x.a7 * y.a5) (0 + x.a6 * y.a7 + x.a7 * y.a6) (0 + x.a7 * y.a7)
  have e := prod_cols x.a0 x.a1 x.a2 x.a3 x.a4 x.a5 x.a6 x.a7 y.a0 y.a1 y.a2 y.a3 y.a4 y.a5 y.a6 y.a7
  have e1 : x.val * y.val = (mulZ x y).val + o * pp := by
    unfold mulZ
    rw [← h]
    exact e
  rw [e1, Nat.add_mul_mod_self_right]
theorem lt_up {z : N8} (h : z.lt 288230376151711744) : z.lt 9223372036854775808 := by
  obtain ⟨h0, h1, h2, h3, h4, h5, h6, h7⟩ := h
  exact ⟨Nat.lt_trans h0 (by decide), Nat.lt_trans h1 (by decide), Nat.lt_trans h2 (by decide), Nat.lt_trans h3 (by decide), Nat.lt_trans h4 (by decide), Nat.lt_trans h5 (by decide), Nat.lt_trans h6 (by decide), Nat.lt_trans h7 (by decide)⟩
def mulE (x y : El) : El := (carN (mulZ x.n y.n)).el (carN_lt (lt_up (mulZ_eq x y).2))
theorem mulE_num (x y : El) : (mulE x y).num % pp = x.num * y.num % pp := by
  obtain ⟨o, h⟩ := carN_val (mulZ x.n y.n)
  have := mulZ_val x.n y.n
  rw [h, Nat.add_mul_mod_self_right] at this
  exact this
theorem mulW_eq (x y : El) : carryF (mulW x y) = (mulE x y).w := by
  rw [(mulZ_eq x y).1, carryF_nat (lt_up (mulZ_eq x y).2)]
  rfl
def e33 : Ent := ent2 33 pE pE fun x y => E1 (mulE x y)
theorem e33_ok : EntOk Tryz.prog e33 := ent2_ok fun x y => (mul_words x y).turn fun ρ => by rw [mulW_eq]; rfl
end Go.Proofs.YtkiaodihfofbnaaGreatDoor.X
