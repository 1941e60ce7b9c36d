/- The law QueueBounds, walked. -/
import Derived.Test.YtckanomabhbkaaaQX4
import Derived.Test.YtckanomabhbkaaaZ1
namespace Go.Proofs.Ytckanomabhbkaaa
open Go.RowKit Go.Shelf
set_option linter.unusedVariables false
set_option maxHeartbeats 1600000 in
theorem queueBounds_any (L : Int) (A : Option Addr) (c : Nat) (l : List Pk) (id every : Int) (w : World) (hr : PkAt w A c l) (hids : IdsOk l) (hw1 : (Lit.int .i64 id).wf = true) (hw2 : (Lit.int .i64 every).wf = true) :
    Calls Try.prog 5 #[.agg #[.int .i64 L, .slice A l.length c], .int .i64 id, .int .i64 every] w fun e w' => e = .returned (.bool true) ∧ Below w.heap.size w w' := by
  have HR := Lib.hid hr
  clear hr hw1 hw2
  have hu24 := Try.underlying24
  have HA : ∀ W, Hid (Calls Try.prog 18 #[] W fun e w' => e = .returned (.bool true) ∧ Below W.heap.size W w') := awake_any
  obtain ⟨x, hx⟩ : ∃ x, few l = x := ⟨_, rfl⟩
  have HX := Lib.hid hx
  obtain ⟨n, hn⟩ : ∃ n, aheadV L l id = n := ⟨_, rfl⟩
  obtain ⟨E, hE⟩ : ∃ E, aheadE L l id = E := ⟨_, rfl⟩
  obtain ⟨b, hb⟩ : ∃ b, boundV L l id every = b := ⟨_, rfl⟩
  obtain ⟨F, hF⟩ : ∃ F, boundE L l id every = F := ⟨_, rfl⟩
  have HN := Lib.hid hn
  have HE := Lib.hid hE
  have HB := Lib.hid hb
  have HF := Lib.hid hF
  clear hx hn hE hb hF
  have t1 : (n == n) = true := by simp
  have t2 : (E == E) = true := by simp
  have t3 : (b == b) = true := by simp
  have t4 : (F == F) = true := by simp
  go_enter Try.func5, Try.ntmps5
  go_wp2_with fail
  refine (HA _).out.mono ?_
  rintro e w1 ⟨rfl, hb1⟩
  have HB1 := Lib.hid (show Below (w.heap.size + 1) (w.alloc (.cells #[.int .i64 L, .slice A l.length c] 24)) w1 from by simpa using hb1)
  obtain ⟨⟨q0, q1⟩, l1⟩ := box24 HB1.out
  clear hb1
  go_wp2_with fail
  refine (few_any L A c l _ (HR.out.row.below (box24_bel HB1.out))).mono ?_
  rintro e w2 ⟨rfl, hb2⟩
  rw [HX.out]
  have HB2 := Lib.hid (HB1.out.trans (hb2.mono (by omega)))
  clear q0 q1 hb2
  obtain ⟨⟨q0, q1⟩, l2⟩ := box24 HB2.out
  cases x
  · go_wp2
    go_ret
    exact ⟨rfl, box24_bel HB2.out⟩
  · go_wp2_with fail
    refine (ahead_any L A c l id _ (HR.out.below (box24_bel HB2.out)) hids).mono ?_
    rintro e w3 ⟨rfl, hb3⟩
    rw [HN.out, HE.out]
    have HB3 := Lib.hid (HB2.out.trans (hb3.mono (by omega)))
    clear q0 q1 hb3
    obtain ⟨⟨q0, q1⟩, l3⟩ := box24 HB3.out
    go_wp2_with fail
    refine (refAhead_any L A c l id _ (HR.out.below (box24_bel HB3.out))).mono ?_
    rintro e w4 ⟨rfl, hb4⟩
    rw [HN.out, HE.out]
    have HB4 := Lib.hid (HB3.out.trans (hb4.mono (by omega)))
    clear q0 q1 hb4
    obtain ⟨⟨q0, q1⟩, l4⟩ := box24 HB4.out
    go_wp2_with fail
    refine (bound_any L A c l id every _ (HR.out.below (box24_bel HB4.out)) hids).mono ?_
    rintro e w5 ⟨rfl, hb5⟩
    rw [HB.out, HF.out]
    have HB5 := Lib.hid (HB4.out.trans (hb5.mono (by omega)))
    clear q0 q1 hb5
    obtain ⟨⟨q0, q1⟩, l5⟩ := box24 HB5.out
    go_wp2_with fail
    refine (refBound_any L A c l id every _ (HR.out.below (box24_bel HB5.out))).mono ?_
    rintro e w6 ⟨rfl, hb6⟩
    rw [HB.out, HF.out]
    have HB6 := Lib.hid (HB5.out.trans (hb6.mono (by omega)))
    clear q0 q1 hb6
    obtain ⟨⟨q0, q1⟩, l6⟩ := box24 HB6.out
    go_wp2
    go_ret
    exact ⟨rfl, box24_bel HB6.out⟩
end Go.Proofs.Ytckanomabhbkaaa
