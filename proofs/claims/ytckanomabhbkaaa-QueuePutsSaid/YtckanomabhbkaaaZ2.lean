/- The law QueuePuts, walked. -/
import Derived.Test.YtckanomabhbkaaaQU5
import Derived.Test.YtckanomabhbkaaaQW2
import Derived.Test.YtckanomabhbkaaaQS
namespace Go.Proofs.Ytckanomabhbkaaa
open Go.RowKit Go.Shelf
set_option linter.unusedVariables false
def qpW (w : World) (L : Int) (A : Option Addr) (c : Nat) (l : List Pk) (p : Pk) : World :=
  (w.alloc (.cells #[.int .i64 L, .slice A l.length c] 24)).alloc (.cells #[.int .i64 p.id, .int .i64 p.dst, .int .i64 p.pr, .int .i64 p.born, .int .i64 p.life, .string p.data] 30)
theorem qpW_below (w : World) (L : Int) (A : Option Addr) (c : Nat) (l : List Pk) (p : Pk) : Below w.heap.size w (qpW w L A c l p) := ((Below.refl _ _).alloc (Nat.le_refl _) _).alloc (by simp) _
theorem qpW_size (w : World) (L : Int) (A : Option Addr) (c : Nat) (l : List Pk) (p : Pk) : (qpW w L A c l p).heap.size = w.heap.size + 2 := by simp [qpW]
theorem qpW_cells {w : World} {L : Int} {A : Option Addr} {c : Nat} {l : List Pk} {p : Pk} {w1 : World} (h : Below (w.heap.size + 2) (qpW w L A c l p) w1) :
    (w1.cell? ⟨w.heap.size, 0, none⟩ = some (.int .i64 L) ∧ w1.cell? ⟨w.heap.size, 1, none⟩ = some (.slice A l.length c)) ∧
    (w1.cell? ⟨w.heap.size + 1, 0, none⟩ = some (.int .i64 p.id) ∧ w1.cell? ⟨w.heap.size + 1, 1, none⟩ = some (.int .i64 p.dst) ∧ w1.cell? ⟨w.heap.size + 1, 2, none⟩ = some (.int .i64 p.pr) ∧ w1.cell? ⟨w.heap.size + 1, 3, none⟩ = some (.int .i64 p.born) ∧ w1.cell? ⟨w.heap.size + 1, 4, none⟩ = some (.int .i64 p.life) ∧ w1.cell? ⟨w.heap.size + 1, 5, none⟩ = some (.string p.data)) := by
  have B0 : w1.heap[w.heap.size]? = some (.cells #[.int .i64 L, .slice A l.length c] 24 (0, 0)) := blk_below (blk_old (blk_new w _ rfl) _) h (by omega)
  have B1 : w1.heap[w.heap.size + 1]? = some (.cells #[.int .i64 p.id, .int .i64 p.dst, .int .i64 p.pr, .int .i64 p.born, .int .i64 p.life, .string p.data] 30 (0, 0)) := blk_below (blk_new (w.alloc (.cells #[.int .i64 L, .slice A l.length c] 24)) _ (by simp)) h (by omega)
  exact ⟨⟨blk_cell B0 0, blk_cell B0 1⟩, blk_cell B1 0, blk_cell B1 1, blk_cell B1 2, blk_cell B1 3, blk_cell B1 4, blk_cell B1 5⟩
theorem two24 {w W : World} {b : Nat} {L : Int} {v : Value} (h : W.heap[b]? = some (.cells #[.int .i64 L, v] 24 (0, 0))) : W.cell? ⟨b, 0, none⟩ = some (.int .i64 L) ∧ W.cell? ⟨b, 1, none⟩ = some v := ⟨blk_cell h 0, blk_cell h 1⟩
set_option maxHeartbeats 1600000 in
theorem queuePuts_any (L : Int) (A : Option Addr) (c : Nat) (l : List Pk) (p : Pk) (w : World) (hr : PkAt w A c l) (hids : IdsOk l) (hw : (Lit.int .i64 p.id).wf = true) :
    Calls Try.prog 4 #[.agg #[.int .i64 L, .slice A l.length c], .agg #[.int .i64 p.id, .int .i64 p.dst, .int .i64 p.pr, .int .i64 p.born, .int .i64 p.life, .string p.data]] w fun e w' => e = .returned (.bool true) ∧ Below w.heap.size w w' := by
  have HR := Lib.hid hr
  clear hr
  have hu24 := Try.underlying24
  have hu30 := Try.underlying30
  have HW := Lib.hid (qpW_below w L A c l p)
  obtain ⟨x, hx⟩ : ∃ x, few l = x := ⟨_, rfl⟩
  have HX := Lib.hid hx
  clear hx
  have HA : ∀ W, Hid (Calls Try.prog 18 #[] W fun e w' => e = .returned (.bool true) ∧ Below W.heap.size W w') := awake_any
  cases x
  · go_enter Try.func4, Try.ntmps4
    go_wp2_with fail
    refine (HA _).out.mono ?_
    rintro e w1 ⟨rfl, hb1⟩
    have HB1 := Lib.hid (show Below (w.heap.size + 2) (qpW w L A c l p) w1 from by have h := hb1; rw [← qpW_size w L A c l p]; exact h)
    obtain ⟨⟨q0, q1⟩, ⟨p0, p1, p2, p3, p4, p5⟩⟩ := qpW_cells HB1.out
    clear hb1
    go_wp2_with fail
    refine (few_any L A c l _ (HR.out.row.below (HW.out.trans (HB1.out.mono (by omega))))).mono ?_
    rintro e w2 ⟨rfl, hb2⟩
    rw [HX.out]
    have HB2 := Lib.hid (HB1.out.trans (hb2.mono (by have := HB1.out.size; rw [qpW_size] at this; omega)))
    clear hb2 q0 q1 p0 p1 p2 p3 p4 p5
    go_wp2
    go_ret
    exact ⟨rfl, HW.out.trans (HB2.out.mono (by omega))⟩
  · obtain ⟨y, hy⟩ : ∃ y, decide ((200 : Int) < (p.data.size : Int)) = y := ⟨_, rfl⟩
    go_enter Try.func4, Try.ntmps4
    go_wp2_with fail
    refine (HA _).out.mono ?_
    rintro e w1 ⟨rfl, hb1⟩
    have HB1 := Lib.hid (show Below (w.heap.size + 2) (qpW w L A c l p) w1 from by have h := hb1; rw [← qpW_size w L A c l p]; exact h)
    obtain ⟨⟨q0, q1⟩, ⟨p0, p1, p2, p3, p4, p5⟩⟩ := qpW_cells HB1.out
    clear hb1
    go_wp2_with fail
    refine (few_any L A c l _ (HR.out.row.below (HW.out.trans (HB1.out.mono (by omega))))).mono ?_
    rintro e w2 ⟨rfl, hb2⟩
    rw [HX.out]
    have HB2 := Lib.hid (HB1.out.trans (hb2.mono (by have := HB1.out.size; rw [qpW_size] at this; omega)))
    clear hb2 q0 q1 p0 p1 p2 p3 p4 p5
    obtain ⟨⟨q0, q1⟩, ⟨p0, p1, p2, p3, p4, p5⟩⟩ := qpW_cells HB2.out
    cases y
    · set_option maxRecDepth 100000 in go_wp2_with fail
      refine (put_any L A c l p _ (HR.out.below (HW.out.trans (HB2.out.mono (by omega)))) hids).mono ?_
      rintro e w3 ⟨⟨A3, c3, A3', c3', rfl, hQ, hG, _, _⟩, hb3⟩
      have hz2 : w.heap.size + 2 ≤ w2.heap.size := by have := HB2.out.size; rwa [qpW_size] at this
      have HB3 := Lib.hid (HB2.out.trans (hb3.mono hz2))
      obtain ⟨E, hE⟩ : ∃ E, putE L l p = E := ⟨_, rfl⟩
      obtain ⟨K, hK⟩ : ∃ K, putL L l p = K := ⟨_, rfl⟩
      obtain ⟨Q, hQe⟩ : ∃ Q, putQ L l p = Q := ⟨_, rfl⟩
      obtain ⟨G, hGe⟩ : ∃ G, putG L l p = G := ⟨_, rfl⟩
      have HEQ := Lib.hid (show putE L l p = E ∧ putL L l p = K ∧ putQ L l p = Q ∧ putG L l p = G from ⟨hE, hK, hQe, hGe⟩)
      rw [hE, hK, hQe, hGe]
      rw [hQe] at hQ
      rw [hGe] at hG
      have hz3 := hb3.size
      have HQ := Lib.hid hQ
      have HG := Lib.hid hG
      clear hb3 hQ hG hE hK hQe hGe q0 q1 p0 p1 p2 p3 p4 p5
      obtain ⟨⟨q0, q1⟩, ⟨p0, p1, p2, p3, p4, p5⟩⟩ := qpW_cells HB3.out
      have l0 : w.heap.size < w3.heap.size := by omega
      have l1 : w.heap.size + 1 < w3.heap.size := by omega
      have n0 : ¬ w.heap.size = w3.heap.size := by omega
      have n1 : ¬ w.heap.size + 1 = w3.heap.size := by omega
      have HV := Lib.hid (show Below w3.heap.size w3 (w3.alloc (.cells #[.int .i64 K, .slice A3 Q.length c3] 24)) from (Below.refl _ _).alloc (Nat.le_refl _) _)
      have hVs : (w3.alloc (.cells #[.int .i64 K, .slice A3 Q.length c3] 24)).heap.size = w3.heap.size + 1 := by simp
      set_option maxRecDepth 100000 in go_wp2_with fail
      refine (refPut_any L A c l p _ (HR.out.below ((HW.out.trans (HB3.out.mono (by omega))).trans (HV.out.mono (by omega))))).mono ?_
      rintro e w4 ⟨⟨A4, c4, A4', c4', rfl, hQ2, hG2, _, _⟩, hb4⟩
      rw [HEQ.out.1, HEQ.out.2.1, HEQ.out.2.2.1, HEQ.out.2.2.2]
      rw [HEQ.out.2.2.1] at hQ2
      rw [HEQ.out.2.2.2] at hG2
      rw [hVs] at hb4
      have hB34 := HV.out.trans (hb4.mono (by omega))
      have HB4 := Lib.hid (HB3.out.trans (hB34.mono (by omega)))
      have HQ' := Lib.hid (HQ.out.below hB34)
      have HG' := Lib.hid (HG.out.below hB34)
      have HQ2 := Lib.hid hQ2
      have HG2 := Lib.hid hG2
      have ha := blk_below (blk_new w3 (.cells #[.int .i64 K, .slice A3 Q.length c3] 24) rfl) hb4 (by omega)
      obtain ⟨a0, a1⟩ := two24 (w := w) ha
      have l3 := blk_lt ha
      have n3 : ¬ w3.heap.size = w4.heap.size := by omega
      clear q0 q1 p0 p1 p2 p3 p4 p5 hb4 hB34 hQ2 hG2 ha l0 l1 n0 n1
      have HV4 := Lib.hid (show Below w4.heap.size w4 (w4.alloc (.cells #[.int .i64 K, .slice A4 Q.length c4] 24)) from (Below.refl _ _).alloc (Nat.le_refl _) _)
      have bE : (E == E) = true := by simp
      set_option maxRecDepth 100000 in go_wp2_with fail
      refine (same_any K A3 c3 Q K A4 c4 Q _ (HQ'.out.row.below HV4.out) (HQ2.out.row.below HV4.out)).mono ?_
      rintro e w5 ⟨rfl, hb5⟩
      rw [sameQ_self]
      have HV5 := Lib.hid (HV4.out.trans (hb5.mono (by simp)))
      clear hb5 a0 a1
      set_option maxRecDepth 100000 in go_wp2_with fail
      refine (samePackets_any A3' c3' G A4' c4' G _ (HG'.out.row.below HV5.out) (HG2.out.row.below HV5.out)).mono ?_
      rintro e w6 ⟨rfl, hb6⟩
      rw [samePk_iff.2 rfl]
      have HF := Lib.hid (((HW.out.trans (HB4.out.mono (by omega))).trans (HV5.out.mono (by omega))).trans (hb6.mono (by have := HV5.out.size; omega)))
      clear hb6
      go_wp2
      go_ret
      exact ⟨rfl, HF.out⟩
    · set_option maxRecDepth 100000 in go_wp2
      go_ret
      exact ⟨rfl, HW.out.trans (HB2.out.mono (by omega))⟩
end Go.Proofs.Ytckanomabhbkaaa
