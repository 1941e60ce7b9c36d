/- The law QueueServes, walked. -/
import Derived.Test.YtckanomabhbkaaaYH
import Derived.Test.YtckanomabhbkaaaQE
import Derived.Test.YtckanomabhbkaaaZ1
namespace Go.Proofs.Ytckanomabhbkaaa
open Go.RowKit Go.Shelf
set_option linter.unusedVariables false
set_option maxHeartbeats 1600000 in
theorem queueServes_any (L : Int) (A : Option Addr) (c : Nat) (l : List Pk) (fr : Int) (As : Option Addr) (cs : Nat) (sv : List Int) (w : World) (hr : PkAt w A c l) (hids : IdsOk l) (hw1 : (Lit.int .i64 fr).wf = true) (hv : SlAt intc 1 w As cs sv) :
    Calls Try.prog 6 #[.agg #[.int .i64 L, .slice A l.length c], .int .i64 fr, .slice As sv.length cs] w fun e w' => e = .returned (.bool true) ∧ Below w.heap.size w w' := by
  have HR := Lib.hid hr
  have HV := Lib.hid hv.row
  have hs63 := hv.row.1
  clear hr hw1 hv
  have hu24 := Try.underlying24
  have HA : ∀ W, Hid (Calls Try.prog 18 #[] W fun e w' => e = .returned (.bool true) ∧ Below W.heap.size W w') := awake_any
  obtain ⟨x, hx⟩ : ∃ x, few l = x := ⟨_, rfl⟩
  have HX := Lib.hid hx
  clear hx
  have tail : ∀ (w2 : World), Hid (Below (w.heap.size + 1) (w.alloc (.cells #[.int .i64 L, .slice A l.length c] 24)) w2) → True := fun _ _ => trivial
  clear tail
  obtain ⟨y, hy⟩ : ∃ y : Bool, (((100 < sv.length) && (sv.length ≤ 4096)) || (4100 < sv.length)) = y := ⟨_, rfl⟩
  by_cases hskip : x = false ∨ y = true
  · have hc1 : decide ((100 : Int) < sv.length) = decide (100 < sv.length) := by rw [decide_eq_decide]; omega
    rcases hskip with rfl | rfl
    · go_enter Try.func6, Try.ntmps6
      go_wp2_with fail
      refine (HA _).out.mono ?_
      rintro e w1 ⟨rfl, hb1⟩
      have HB1 := Lib.hid (show Below (w.heap.size + 1) (w.alloc (.cells #[.int .i64 L, .slice A l.length c] 24)) w1 from by simpa using hb1)
      obtain ⟨⟨q0, q1⟩, l1⟩ := box24 HB1.out
      clear hb1
      go_wp2_with fail
      refine (few_any L A c l _ (HR.out.row.below (box24_bel HB1.out))).mono ?_
      rintro e w2 ⟨rfl, hb2⟩
      rw [HX.out]
      have HB2 := Lib.hid (HB1.out.trans (hb2.mono (by omega)))
      clear q0 q1 hb2 hc1
      go_wp2
      go_ret
      exact ⟨rfl, box24_bel HB2.out⟩
    · have hor : (100 < sv.length ∧ sv.length ≤ 4096) ∨ 4100 < sv.length := by simpa using hy
      cases x
      · go_enter Try.func6, Try.ntmps6
        go_wp2_with fail
        refine (HA _).out.mono ?_
        rintro e w1 ⟨rfl, hb1⟩
        have HB1 := Lib.hid (show Below (w.heap.size + 1) (w.alloc (.cells #[.int .i64 L, .slice A l.length c] 24)) w1 from by simpa using hb1)
        obtain ⟨⟨q0, q1⟩, l1⟩ := box24 HB1.out
        clear hb1
        go_wp2_with fail
        refine (few_any L A c l _ (HR.out.row.below (box24_bel HB1.out))).mono ?_
        rintro e w2 ⟨rfl, hb2⟩
        rw [HX.out]
        have HB2 := Lib.hid (HB1.out.trans (hb2.mono (by omega)))
        clear q0 q1 hb2 hc1
        go_wp2
        go_ret
        exact ⟨rfl, box24_bel HB2.out⟩
      · have hb : decide ((100 : Int) < sv.length) = true := by simp; omega
        have hn : decide (100 < sv.length) = true := by simp; omega
        rcases hor with ⟨h1, h2⟩ | h1
        · have hb2 : decide ((sv.length : Int) ≤ 4096) = true := by simp; omega
          have hn2 : decide (sv.length ≤ 4096) = true := by simp; omega
          clear hc1 hy h1 h2
          go_enter Try.func6, Try.ntmps6
          go_wp2_with fail
          refine (HA _).out.mono ?_
          rintro e w1 ⟨rfl, hb1⟩
          have HB1 := Lib.hid (show Below (w.heap.size + 1) (w.alloc (.cells #[.int .i64 L, .slice A l.length c] 24)) w1 from by simpa using hb1)
          obtain ⟨⟨q0, q1⟩, l1⟩ := box24 HB1.out
          clear hb1
          go_wp2_with fail
          refine (few_any L A c l _ (HR.out.row.below (box24_bel HB1.out))).mono ?_
          rintro e w2 ⟨rfl, hb2⟩
          rw [HX.out]
          have HB2 := Lib.hid (HB1.out.trans (hb2.mono (by omega)))
          clear q0 q1 hb2
          go_wp2
          go_ret
          exact ⟨rfl, box24_bel HB2.out⟩
        · have hb2 : decide ((sv.length : Int) ≤ 4096) = false := by simp; omega
          have hn2 : decide (sv.length ≤ 4096) = false := by simp; omega
          have hb3 : decide ((4100 : Int) < sv.length) = true := by simp; omega
          have hn3 : decide (4100 < sv.length) = true := by simp; omega
          clear hc1 hy h1
          go_enter Try.func6, Try.ntmps6
          go_wp2_with fail
          refine (HA _).out.mono ?_
          rintro e w1 ⟨rfl, hb1⟩
          have HB1 := Lib.hid (show Below (w.heap.size + 1) (w.alloc (.cells #[.int .i64 L, .slice A l.length c] 24)) w1 from by simpa using hb1)
          obtain ⟨⟨q0, q1⟩, l1⟩ := box24 HB1.out
          clear hb1
          go_wp2_with fail
          refine (few_any L A c l _ (HR.out.row.below (box24_bel HB1.out))).mono ?_
          rintro e w2 ⟨rfl, hb2⟩
          rw [HX.out]
          have HB2 := Lib.hid (HB1.out.trans (hb2.mono (by omega)))
          clear q0 q1 hb2
          go_wp2
          go_ret
          exact ⟨rfl, box24_bel HB2.out⟩
  · have hx1 : x = true := by cases x <;> simp_all
    have hy1 : y = false := by cases y <;> simp_all
    subst hx1 hy1
    clear hskip
    have hor : ((100 : Int) < sv.length ↔ False) ∨ (((100 : Int) < sv.length ↔ True) ∧ ((sv.length : Int) ≤ 4096 ↔ False)) := by
      simp at hy
      by_cases h : 100 < sv.length
      · right; simp; omega
      · left; simp; omega
    have h41 : ¬ 4100 < sv.length := by simp at hy; omega
    have hb3 : decide ((4100 : Int) < sv.length) = false := by simp; omega
    have hn3 : decide (4100 < sv.length) = false := by simp; omega
    obtain ⟨E, hE⟩ : ∃ E, serveE L l fr sv = E := ⟨_, rfl⟩
    obtain ⟨K, hK⟩ : ∃ K, serveL L l fr sv = K := ⟨_, rfl⟩
    obtain ⟨Q, hQe⟩ : ∃ Q, serveQ L l fr sv = Q := ⟨_, rfl⟩
    obtain ⟨G, hGe⟩ : ∃ G, serveD L l fr sv = G := ⟨_, rfl⟩
    have HEQ := Lib.hid (show serveE L l fr sv = E ∧ serveL L l fr sv = K ∧ serveQ L l fr sv = Q ∧ serveD L l fr sv = G from ⟨hE, hK, hQe, hGe⟩)
    clear hE hK hQe hGe hy
    have hor2 : (decide ((100 : Int) < sv.length) = false ∧ decide (100 < sv.length) = false) ∨ (decide ((100 : Int) < sv.length) = true ∧ decide (100 < sv.length) = true ∧ decide ((sv.length : Int) ≤ 4096) = false ∧ decide (sv.length ≤ 4096) = false) := by
      rcases hor with h | ⟨h, h'⟩
      · left; simp at h ⊢; omega
      · right; simp at h h' ⊢; omega
    clear hor h41
    have bE : (E == E) = true := by simp
    rcases hor2 with ⟨hb, hn⟩ | ⟨hb, hn, hb4, hn4⟩
    all_goals
      go_enter Try.func6, Try.ntmps6
      go_wp2_with fail
      refine (HA _).out.mono ?_
      rintro e w1 ⟨rfl, hb1⟩
      have HB1 := Lib.hid (show Below (w.heap.size + 1) (w.alloc (.cells #[.int .i64 L, .slice A l.length c] 24)) w1 from by simpa using hb1)
      obtain ⟨⟨q0, q1⟩, l1⟩ := box24 HB1.out
      clear hb1
      go_wp2_with fail
      refine (few_any L A c l _ (HR.out.row.below (box24_bel HB1.out))).mono ?_
      rintro e w2 ⟨rfl, hb2⟩
      rw [HX.out]
      have HB2 := Lib.hid (HB1.out.trans (hb2.mono (by omega)))
      clear q0 q1 hb2
      obtain ⟨⟨q0, q1⟩, l2⟩ := box24 HB2.out
      set_option maxRecDepth 100000 in go_wp2_with fail
      refine (serve_any L A c l fr As cs sv _ (HR.out.below (box24_bel HB2.out)) hids (HV.out.below (box24_bel HB2.out))).mono ?_
      rintro e w3 ⟨⟨A3, c3, A3', c3', rfl, hQ, hG⟩, hb3x⟩
      have HB3 := Lib.hid (HB2.out.trans (hb3x.mono (by omega)))
      rw [HEQ.out.1, HEQ.out.2.1, HEQ.out.2.2.1, HEQ.out.2.2.2]
      rw [HEQ.out.2.2.1] at hQ
      rw [HEQ.out.2.2.2] at hG
      have HQ := Lib.hid hQ
      have HG := Lib.hid hG
      clear hb3x hQ hG q0 q1
      obtain ⟨⟨q0, q1⟩, l3⟩ := box24 HB3.out
      have n0 : ¬ w.heap.size = w3.heap.size := by omega
      have HV3 := Lib.hid (show Below w3.heap.size w3 (w3.alloc (.cells #[.int .i64 K, .slice A3 Q.length c3] 24)) from (Below.refl _ _).alloc (Nat.le_refl _) _)
      have hVs : (w3.alloc (.cells #[.int .i64 K, .slice A3 Q.length c3] 24)).heap.size = w3.heap.size + 1 := by simp
      set_option maxRecDepth 100000 in go_wp2_with fail
      refine (refServe_any L A c l fr As cs sv _ (HR.out.below ((box24_bel HB3.out).trans (HV3.out.mono (by omega)))) (HV.out.below ((box24_bel HB3.out).trans (HV3.out.mono (by omega))))).mono ?_
      rintro e w4 ⟨⟨A4, c4, A4', c4', rfl, hQ2, hG2⟩, hb4x⟩
      rw [HEQ.out.1, HEQ.out.2.1, HEQ.out.2.2.1, HEQ.out.2.2.2]
      rw [HEQ.out.2.2.1] at hQ2
      rw [HEQ.out.2.2.2] at hG2
      rw [hVs] at hb4x
      have hB34 := HV3.out.trans (hb4x.mono (by omega))
      have HB4 := Lib.hid (HB3.out.trans (hB34.mono (by omega)))
      have HQ' := Lib.hid (HQ.out.below hB34)
      have HG' := Lib.hid (HG.out.below hB34)
      have HQ2 := Lib.hid hQ2
      have HG2 := Lib.hid hG2
      have ha := blk_below (blk_new w3 (.cells #[.int .i64 K, .slice A3 Q.length c3] 24) rfl) hb4x (by omega)
      obtain ⟨a0, a1⟩ := cells24 ha
      have l4 := blk_lt ha
      have n3 : ¬ w3.heap.size = w4.heap.size := by omega
      clear q0 q1 hb4x hB34 hQ2 hG2 ha n0 hVs
      have HV4 := Lib.hid (show Below w4.heap.size w4 (w4.alloc (.cells #[.int .i64 K, .slice A4 Q.length c4] 24)) from (Below.refl _ _).alloc (Nat.le_refl _) _)
      set_option maxRecDepth 100000 in go_wp2_with fail
      refine (same_any K A3 c3 Q K A4 c4 Q _ (HQ'.out.row.below HV4.out) (HQ2.out.row.below HV4.out)).mono ?_
      rintro e w5 ⟨rfl, hb5⟩
      rw [sameQ_self]
      have HV5 := Lib.hid (HV4.out.trans (hb5.mono (by simp)))
      clear hb5 a0 a1
      set_option maxRecDepth 100000 in go_wp2_with fail
      refine (equalDp_any A3' c3' G A4' c4' G _ (HG'.out.row.below HV5.out) (HG2.out.row.below HV5.out)).mono ?_
      rintro e w6 ⟨rfl, hb6⟩
      rw [sameDp_iff.2 rfl]
      have HF := Lib.hid (((box24_bel HB4.out).trans (HV5.out.mono (by omega))).trans (hb6.mono (by have := HV5.out.size; omega)))
      clear hb6
      go_wp2
      go_ret
      exact ⟨rfl, HF.out⟩
end Go.Proofs.Ytckanomabhbkaaa
