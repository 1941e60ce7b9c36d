/- The law QueueTakes, walked. -/
import Derived.Test.YtckanomabhbkaaaYB
import Derived.Test.YtckanomabhbkaaaYE
import Derived.Test.YtckanomabhbkaaaZ1
namespace Go.Proofs.Ytckanomabhbkaaa
open Go.RowKit Go.Shelf
set_option linter.unusedVariables false
attribute [local go_sem high] eqA30
def box30 (p : Pk) : Obj := .cells #[.int .i64 p.id, .int .i64 p.dst, .int .i64 p.pr, .int .i64 p.born, .int .i64 p.life, .string p.data] 30
theorem pkEq_self (p : Pk) : pkEq p p = true := pkEq_iff.2 rfl
theorem few_skip (n : Nat) : True := trivial
set_option maxHeartbeats 6400000 in
theorem queueTakes_any (L : Int) (A : Option Addr) (c : Nat) (l : List Pk) (tt id slot : Int) (w : World) (hr : PkAt w A c l) (hids : IdsOk l) (hw1 : (Lit.int .i64 tt).wf = true) (hw2 : (Lit.int .i64 id).wf = true) (hw3 : (Lit.int .i64 slot).wf = true) :
    Calls Try.prog 9 #[.agg #[.int .i64 L, .slice A l.length c], .int .i64 tt, .int .i64 id, .int .i64 slot] w fun e w' => e = .returned (.bool true) ∧ Below w.heap.size w w' := by
  have HR := Lib.hid hr
  clear hr hw1 hw2 hw3
  have hu24 := Try.underlying24
  have hu30 := Try.underlying30
  have HA : ∀ W, Hid (Calls Try.prog 18 #[] W fun e w' => e = .returned (.bool true) ∧ Below W.heap.size W w') := awake_any
  obtain ⟨x, hx⟩ : ∃ x, few l = x := ⟨_, rfl⟩
  have HX := Lib.hid hx
  clear hx
  obtain ⟨P, hP⟩ : ∃ P, firstP L l tt = P := ⟨_, rfl⟩
  obtain ⟨b, hb⟩ : ∃ b, firstB L l tt = b := ⟨_, rfl⟩
  obtain ⟨K, hK⟩ : ∃ K, takeL L l id = K := ⟨_, rfl⟩
  obtain ⟨T, hT⟩ : ∃ T, takeQ L l id = T := ⟨_, rfl⟩
  obtain ⟨S, hS⟩ : ∃ S, takeP L l id = S := ⟨_, rfl⟩
  obtain ⟨E, hE⟩ : ∃ E, aheadE L l id = E := ⟨_, rfl⟩
  obtain ⟨Q, hQ⟩ : ∃ Q, expQ L l slot = Q := ⟨_, rfl⟩
  obtain ⟨G, hG⟩ : ∃ G, expG L l slot = G := ⟨_, rfl⟩
  have HEQ := Lib.hid (show (firstP L l tt = P ∧ firstB L l tt = b) ∧ (takeL L l id = K ∧ takeQ L l id = T ∧ takeP L l id = S ∧ aheadE L l id = E) ∧ expQ L l slot = Q ∧ expG L l slot = G from ⟨⟨hP, hb⟩, ⟨hK, hT, hS, hE⟩, hQ, hG⟩)
  clear hP hb hK hT hS hE hQ hG
  have t1 : (b == b) = true := by simp
  have t2 : (E == E) = true := by simp
  have t3 := pkEq_self P
  have t4 := pkEq_self S
  go_enter Try.func9, Try.ntmps9
  go_wp2_with fail
  refine (HA _).out.mono ?_
  rintro e w1 ⟨rfl, hb1⟩
  have HB1 := Lib.hid (show Below (w.heap.size + 1) (w.alloc (.cells #[.int .i64 L, .slice A l.length c] 24)) w1 from by simpa using hb1)
  obtain ⟨⟨q0, q1⟩, l1⟩ := box24 HB1.out
  clear hb1
  go_wp2_with fail
  refine (few_any L A c l _ (HR.out.row.below (box24_bel HB1.out))).mono ?_
  rintro e w2 ⟨rfl, hb2⟩
  rw [HX.out]
  have HB2 := Lib.hid (HB1.out.trans (hb2.mono (by omega)))
  clear q0 q1 hb2
  obtain ⟨⟨q0, q1⟩, l2⟩ := box24 HB2.out
  cases x
  · go_wp2
    go_ret
    exact ⟨rfl, box24_bel HB2.out⟩
  clear l1
  set_option maxRecDepth 100000 in go_wp2_with fail
  refine (qfirst_any L A c l tt _ (HR.out.below (box24_bel HB2.out)) hids).mono ?_
  rintro e w3 ⟨rfl, hb3⟩
  rw [HEQ.out.1.1, HEQ.out.1.2]
  unfold pkv
  have HB3 := Lib.hid (HB2.out.trans (hb3.mono (by omega)))
  clear q0 q1 hb3 l2
  obtain ⟨⟨q0, q1⟩, l3⟩ := box24 HB3.out
  have n3 : ¬ w.heap.size = w3.heap.size := by omega
  set_option maxRecDepth 100000 in go_wp2_with fail
  obtain ⟨V3, hV3⟩ : ∃ V3, w3.alloc (.cells #[.int .i64 P.id, .int .i64 P.dst, .int .i64 P.pr, .int .i64 P.born, .int .i64 P.life, .string P.data] 30) = V3 := ⟨_, rfl⟩
  have HV3 : Hid (Below w3.heap.size w3 V3 ∧ V3.heap.size = w3.heap.size + 1 ∧ V3.heap[w3.heap.size]? = some (.cells #[.int .i64 P.id, .int .i64 P.dst, .int .i64 P.pr, .int .i64 P.born, .int .i64 P.life, .string P.data] 30 (0, 0))) := by rw [← hV3]; exact ⟨(Below.refl _ _).alloc (Nat.le_refl _) _, by simp, blk_new w3 _ rfl⟩
  rw [hV3]
  clear hV3
  have HC3 := Lib.hid (HB3.out.trans (HV3.out.1.mono (by omega)))
  refine (refFirst_any L A c l tt _ (HR.out.below (box24_bel HC3.out))).mono ?_
  rintro e w4 ⟨rfl, hb4⟩
  rw [HEQ.out.1.1, HEQ.out.1.2]
  unfold pkv
  have HB4 := Lib.hid (HC3.out.trans (hb4.mono (by have := HV3.out.2.1; omega)))
  have K4 := Lib.hid (blk_below HV3.out.2.2 hb4 (by have := HV3.out.2.1; omega))
  obtain ⟨x3, hx3⟩ : ∃ x3, w3.heap.size = x3 := ⟨_, rfl⟩
  rw [hx3] at K4 l3 n3 ⊢
  clear q0 q1 hb4 HV3 HC3 hx3
  obtain ⟨⟨q0, q1⟩, l4⟩ := box24 HB4.out
  have n4 : ¬ w.heap.size = w4.heap.size := by omega
  set_option maxRecDepth 100000 in go_wp2_with fail
  obtain ⟨V4, hV4⟩ : ∃ V4, w4.alloc (.cells #[.int .i64 P.id, .int .i64 P.dst, .int .i64 P.pr, .int .i64 P.born, .int .i64 P.life, .string P.data] 30) = V4 := ⟨_, rfl⟩
  have HV4 : Hid (Below w4.heap.size w4 V4 ∧ V4.heap.size = w4.heap.size + 1 ∧ V4.heap[w4.heap.size]? = some (.cells #[.int .i64 P.id, .int .i64 P.dst, .int .i64 P.pr, .int .i64 P.born, .int .i64 P.life, .string P.data] 30 (0, 0))) := by rw [← hV4]; exact ⟨(Below.refl _ _).alloc (Nat.le_refl _) _, by simp, blk_new w4 _ rfl⟩
  rw [hV4]
  clear hV4
  have HC4 := Lib.hid (HB4.out.trans (HV4.out.1.mono (by omega)))
  have KK4 := Lib.hid (blk_below K4.out HV4.out.1 (blk_lt K4.out))
  refine (take_any L A c l id _ (HR.out.below (box24_bel HC4.out)) hids).mono ?_
  rintro e w5 ⟨⟨A5, c5, rfl, hP5, _⟩, hb5⟩
  rw [HEQ.out.2.1.1, HEQ.out.2.1.2.1, HEQ.out.2.1.2.2.1, HEQ.out.2.1.2.2.2]
  rw [HEQ.out.2.1.2.1] at hP5
  unfold pkv
  have HP5 := Lib.hid hP5
  have HB5 := Lib.hid (HC4.out.trans (hb5.mono (by have := HV4.out.2.1; omega)))
  have K5 := Lib.hid (And.intro (blk_below KK4.out hb5 (blk_lt KK4.out)) (blk_below HV4.out.2.2 hb5 (by have := HV4.out.2.1; omega)))
  obtain ⟨x4, hx4⟩ : ∃ x4, w4.heap.size = x4 := ⟨_, rfl⟩
  rw [hx4] at K5 l4 n4 ⊢
  clear q0 q1 hb5 HV4 HC4 hx4 hP5 K4 KK4
  obtain ⟨⟨q0, q1⟩, l5⟩ := box24 HB5.out
  have n5 : ¬ w.heap.size = w5.heap.size := by omega
  set_option maxRecDepth 100000 in go_wp2_with fail
  obtain ⟨V5, hV5⟩ : ∃ V5, (w5.alloc (.cells #[.int .i64 K, .slice A5 T.length c5] 24)).alloc (.cells #[.int .i64 S.id, .int .i64 S.dst, .int .i64 S.pr, .int .i64 S.born, .int .i64 S.life, .string S.data] 30) = V5 := ⟨_, rfl⟩
  have HV5 : Hid (Below w5.heap.size w5 V5 ∧ V5.heap.size = w5.heap.size + 2 ∧ V5.heap[w5.heap.size]? = some (.cells #[.int .i64 K, .slice A5 T.length c5] 24 (0, 0)) ∧ V5.heap[w5.heap.size + 1]? = some (.cells #[.int .i64 S.id, .int .i64 S.dst, .int .i64 S.pr, .int .i64 S.born, .int .i64 S.life, .string S.data] 30 (0, 0))) := by rw [← hV5]; exact ⟨((Below.refl _ _).alloc (Nat.le_refl _) _).alloc (by simp) _, by simp, blk_old (blk_new w5 _ rfl) _, blk_new (w5.alloc (.cells #[.int .i64 K, .slice A5 T.length c5] 24)) _ (by simp)⟩
  rw [hV5]
  clear hV5
  have HC5 := Lib.hid (HB5.out.trans (HV5.out.1.mono (by omega)))
  have KK5 := Lib.hid (And.intro (blk_below K5.out.1 HV5.out.1 (blk_lt K5.out.1)) (blk_below K5.out.2 HV5.out.1 (blk_lt K5.out.2)))
  refine (refTake_any L A c l id _ (HR.out.below (box24_bel HC5.out))).mono ?_
  rintro e w6 ⟨⟨A6, c6, rfl, hP6, _⟩, hb6⟩
  rw [HEQ.out.2.1.1, HEQ.out.2.1.2.1, HEQ.out.2.1.2.2.1, HEQ.out.2.1.2.2.2]
  rw [HEQ.out.2.1.2.1] at hP6
  unfold pkv
  have HP6 := Lib.hid hP6
  have HP56 := Lib.hid ((HP5.out.below HV5.out.1).below hb6)
  have HB6 := Lib.hid (HC5.out.trans (hb6.mono (by have := HV5.out.2.1; omega)))
  have K6 := Lib.hid (And.intro (And.intro (blk_below KK5.out.1 hb6 (blk_lt KK5.out.1)) (blk_below KK5.out.2 hb6 (blk_lt KK5.out.2))) (And.intro (blk_below HV5.out.2.2.1 hb6 (by have := HV5.out.2.1; omega)) (blk_below HV5.out.2.2.2 hb6 (by have := HV5.out.2.1; omega))))
  obtain ⟨x5, hx5⟩ : ∃ x5, w5.heap.size = x5 := ⟨_, rfl⟩
  rw [hx5] at K6 l5 n5 ⊢
  clear q0 q1 hb6 HV5 HC5 hx5 hP6 K5 KK5 HP5
  obtain ⟨⟨q0, q1⟩, l6⟩ := box24 HB6.out
  have n6 : ¬ w.heap.size = w6.heap.size := by omega
  set_option maxRecDepth 100000 in go_wp2_with fail
  obtain ⟨V6, hV6⟩ : ∃ V6, (w6.alloc (.cells #[.int .i64 K, .slice A6 T.length c6] 24)).alloc (.cells #[.int .i64 S.id, .int .i64 S.dst, .int .i64 S.pr, .int .i64 S.born, .int .i64 S.life, .string S.data] 30) = V6 := ⟨_, rfl⟩
  have HV6 : Hid (Below w6.heap.size w6 V6 ∧ V6.heap.size = w6.heap.size + 2 ∧ V6.heap[w6.heap.size]? = some (.cells #[.int .i64 K, .slice A6 T.length c6] 24 (0, 0)) ∧ V6.heap[w6.heap.size + 1]? = some (.cells #[.int .i64 S.id, .int .i64 S.dst, .int .i64 S.pr, .int .i64 S.born, .int .i64 S.life, .string S.data] 30 (0, 0))) := by rw [← hV6]; exact ⟨((Below.refl _ _).alloc (Nat.le_refl _) _).alloc (by simp) _, by simp, blk_old (blk_new w6 _ rfl) _, blk_new (w6.alloc (.cells #[.int .i64 K, .slice A6 T.length c6] 24)) _ (by simp)⟩
  rw [hV6]
  clear hV6
  have HC6 := Lib.hid (HB6.out.trans (HV6.out.1.mono (by omega)))
  refine (expire_any L A c l slot _ (HR.out.below (box24_bel HC6.out)) hids).mono ?_
  rintro e w7 ⟨⟨A7, c7, A7', c7', rfl, hP7, hG7, _, _⟩, hb7⟩
  rw [HEQ.out.2.2.1, HEQ.out.2.2.2]
  rw [HEQ.out.2.2.1] at hP7
  rw [HEQ.out.2.2.2] at hG7
  have HP7 := Lib.hid hP7
  have HG7 := Lib.hid hG7
  have hb67 := HV6.out.1.trans (hb7.mono (by have := HV6.out.2.1; omega))
  have HPT := Lib.hid (And.intro (HP56.out.below hb67) (HP6.out.below hb67))
  have HB7 := Lib.hid (HC6.out.trans (hb7.mono (by have := HV6.out.2.1; omega)))
  have K7 := Lib.hid (And.intro (And.intro (blk_below K6.out.1.1 hb67 (blk_lt K6.out.1.1)) (blk_below K6.out.1.2 hb67 (blk_lt K6.out.1.2))) (And.intro (And.intro (blk_below K6.out.2.1 hb67 (blk_lt K6.out.2.1)) (blk_below K6.out.2.2 hb67 (blk_lt K6.out.2.2))) (And.intro (blk_below HV6.out.2.2.1 hb7 (by have := HV6.out.2.1; omega)) (blk_below HV6.out.2.2.2 hb7 (by have := HV6.out.2.1; omega)))))
  obtain ⟨x6, hx6⟩ : ∃ x6, w6.heap.size = x6 := ⟨_, rfl⟩
  rw [hx6] at K7 l6 n6 ⊢
  clear q0 q1 hb7 hb67 HV6 HC6 hx6 hP7 hG7 K6 HP6 HP56
  obtain ⟨⟨q0, q1⟩, l7⟩ := box24 HB7.out
  have n7 : ¬ w.heap.size = w7.heap.size := by omega
  set_option maxRecDepth 100000 in go_wp2_with fail
  obtain ⟨V7, hV7⟩ : ∃ V7, w7.alloc (.cells #[.int .i64 L, .slice A7 Q.length c7] 24) = V7 := ⟨_, rfl⟩
  have HV7 : Hid (Below w7.heap.size w7 V7 ∧ V7.heap.size = w7.heap.size + 1 ∧ V7.heap[w7.heap.size]? = some (.cells #[.int .i64 L, .slice A7 Q.length c7] 24 (0, 0))) := by rw [← hV7]; exact ⟨(Below.refl _ _).alloc (Nat.le_refl _) _, by simp, blk_new w7 _ rfl⟩
  rw [hV7]
  clear hV7
  have HC7 := Lib.hid (HB7.out.trans (HV7.out.1.mono (by omega)))
  refine (refExpire_any L A c l slot _ (HR.out.below (box24_bel HC7.out))).mono ?_
  rintro e w8 ⟨⟨A8, c8, A8', c8', rfl, hP8, hG8, _, _⟩, hb8⟩
  rw [HEQ.out.2.2.1, HEQ.out.2.2.2]
  rw [HEQ.out.2.2.1] at hP8
  rw [HEQ.out.2.2.2] at hG8
  have hb78 := HV7.out.1.trans (hb8.mono (by have := HV7.out.2.1; omega))
  have HQ8 := Lib.hid (And.intro (HP7.out.below hb78) hP8)
  have HG8 := Lib.hid (And.intro (HG7.out.below hb78) hG8)
  have HT8 := Lib.hid (And.intro (HPT.out.1.below hb78) (HPT.out.2.below hb78))
  have HB8 := Lib.hid (HC7.out.trans (hb8.mono (by have := HV7.out.2.1; omega)))
  have H3 := box6 (blk_below K7.out.1.1 hb78 (blk_lt K7.out.1.1))
  have H4 := box6 (blk_below K7.out.1.2 hb78 (blk_lt K7.out.1.2))
  have H5 := cells24 (blk_below K7.out.2.1.1 hb78 (blk_lt K7.out.2.1.1))
  have H5' := box6 (blk_below K7.out.2.1.2 hb78 (blk_lt K7.out.2.1.2))
  have H6 := cells24 (blk_below K7.out.2.2.1 hb78 (blk_lt K7.out.2.2.1))
  have H6' := box6 (blk_below K7.out.2.2.2 hb78 (blk_lt K7.out.2.2.2))
  have H7 := cells24 (blk_below HV7.out.2.2 hb8 (by have := HV7.out.2.1; omega))
  obtain ⟨x7, hx7⟩ : ∃ x7, w7.heap.size = x7 := ⟨_, rfl⟩
  rw [hx7] at H7 l7 n7 ⊢
  obtain ⟨a0, a1, a2, a3, a4, a5⟩ := H3
  obtain ⟨b0, b1, b2, b3, b4, b5⟩ := H4
  obtain ⟨d0, d1⟩ := H5
  obtain ⟨e0, e1, e2, e3, e4, e5⟩ := H5'
  obtain ⟨f0, f1⟩ := H6
  obtain ⟨g0, g1, g2, g3, g4, g5⟩ := H6'
  obtain ⟨h0, h1⟩ := H7
  have m1 := cell_lt a0
  have m2 := cell_lt b0
  have m3 := cell_lt d0
  have m4 := cell_lt e0
  have m5 := cell_lt f0
  have m6 := cell_lt g0
  have m7 := cell_lt h0
  simp only at m1 m2 m3 m4 m5 m6 m7
  have o1 : ¬ x3 = w8.heap.size := by omega
  have o2 : ¬ x4 = w8.heap.size := by omega
  have o3 : ¬ x5 = w8.heap.size := by omega
  have o4 : ¬ x5 + 1 = w8.heap.size := by omega
  have o5 : ¬ x6 = w8.heap.size := by omega
  have o6 : ¬ x6 + 1 = w8.heap.size := by omega
  have o7 : ¬ x7 = w8.heap.size := by omega
  have HV8 := Lib.hid (show Below w8.heap.size w8 (w8.alloc (.cells #[.int .i64 L, .slice A8 Q.length c8] 24)) from (Below.refl _ _).alloc (Nat.le_refl _) _)
  clear q0 q1 hb8 hb78 HV7 HC7 hx7 hP8 hG8 K7 HP7 HG7 HPT l3 l4 l5 l6 l7 n3 n4 n5 n6 n7
  set_option maxRecDepth 100000 in go_wp2_with fail
  refine (same_any K A5 c5 T K A6 c6 T _ (HT8.out.1.row.below HV8.out) (HT8.out.2.row.below HV8.out)).mono ?_
  rintro e w9 ⟨rfl, hb9⟩
  rw [sameQ_self]
  have HV9 := Lib.hid (HV8.out.trans (hb9.mono (by simp)))
  have HV89 := Lib.hid hb9
  have j8 := cells24 (blk_below (blk_new w8 (.cells #[.int .i64 L, .slice A8 Q.length c8] 24) rfl) hb9 (by simp))
  have j7 : w9.cell? ⟨x7, 0, none⟩ = some (.int .i64 L) := cell_below HV9.out h0
  have j7' : w9.cell? ⟨x7, 1, none⟩ = some (.slice A7 Q.length c7) := cell_below HV9.out h1
  obtain ⟨j80, j81⟩ := j8
  clear hb9 a0 a1 a2 a3 a4 a5 b0 b1 b2 b3 b4 b5 d0 d1 e0 e1 e2 e3 e4 e5 f0 f1 g0 g1 g2 g3 g4 g5 h0 h1
  set_option maxRecDepth 100000 in go_wp2_with fail
  refine (same_any L A7 c7 Q L A8 c8 Q _ (HQ8.out.1.row.below HV9.out) (HQ8.out.2.row.below HV9.out)).mono ?_
  rintro e w10 ⟨rfl, hb10⟩
  rw [sameQ_self]
  have HV10 := Lib.hid (HV9.out.trans (hb10.mono HV9.out.size))
  clear hb10 j80 j81 j7 j7'
  set_option maxRecDepth 100000 in go_wp2_with fail
  refine (samePackets_any A7' c7' G A8' c8' G _ (HG8.out.1.row.below HV10.out) (HG8.out.2.row.below HV10.out)).mono ?_
  rintro e w11 ⟨rfl, hb11⟩
  rw [samePk_iff.2 rfl]
  have HF := Lib.hid (((box24_bel HB8.out).trans (HV10.out.mono (by have := HB8.out.size; simp at this; omega))).trans (hb11.mono (by have := HV10.out.size; have := HB8.out.size; simp at this; omega)))
  clear hb11
  go_wp2
  go_ret
  exact ⟨rfl, HF.out⟩
end Go.Proofs.Ytckanomabhbkaaa
