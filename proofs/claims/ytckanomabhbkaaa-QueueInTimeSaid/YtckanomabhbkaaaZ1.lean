/- The law QueueChecks, walked. -/
import Derived.Test.YtckanomabhbkaaaQW2
import Derived.Test.YtckanomabhbkaaaQC
import Derived.Test.YtckanomabhbkaaaQS
import Derived.Deep.RegionWith
namespace Go.Proofs.Ytckanomabhbkaaa
open Go.RowKit Go.Shelf
set_option linter.unusedVariables false
theorem box24 {w W : World} {L : Int} {A : Option Addr} {n c : Nat} (hb : Below (w.heap.size + 1) (w.alloc (.cells #[.int .i64 L, .slice A n c] 24)) W) : (W.cell? ⟨w.heap.size, 0, none⟩ = some (.int .i64 L) ∧ W.cell? ⟨w.heap.size, 1, none⟩ = some (.slice A n c)) ∧ w.heap.size < W.heap.size :=
  have h := blk_below (blk_new w (.cells #[.int .i64 L, .slice A n c] 24) rfl) hb (by omega)
  ⟨⟨blk_cell h 0, blk_cell h 1⟩, blk_lt h⟩
theorem box24_bel {w W : World} {L : Int} {A : Option Addr} {n c : Nat} (hb : Below (w.heap.size + 1) (w.alloc (.cells #[.int .i64 L, .slice A n c] 24)) W) : Below w.heap.size w W := ((Below.refl _ _).alloc (Nat.le_refl _) _).trans (hb.mono (by omega))
set_option maxHeartbeats 1600000 in
theorem queueChecks_any (L : Int) (A : Option Addr) (c : Nat) (l : List Pk) (w : World) (hr : PkAt w A c l) (hids : IdsOk l) :
    Calls Try.prog 3 #[.agg #[.int .i64 L, .slice A l.length c]] w fun e w' => e = .returned (.bool true) ∧ Below w.heap.size w w' := by
  have HR := Lib.hid hr
  clear hr
  have hu24 := Try.underlying24
  go_enter Try.func3, Try.ntmps3
  go_wp2_with fail
  refine (awake_any _).mono ?_
  rintro e w1 ⟨rfl, hb1⟩
  have HB1 := Lib.hid (show Below (w.heap.size + 1) (w.alloc (.cells #[.int .i64 L, .slice A l.length c] 24)) w1 from by simpa using hb1)
  obtain ⟨⟨q0, q1⟩, l1⟩ := box24 HB1.out
  clear hb1
  obtain ⟨x, hx⟩ : ∃ x, few l = x := ⟨_, rfl⟩
  have HX := Lib.hid hx
  clear hx
  go_wp2_with fail
  cases x
  · go_region_with (go_at_call 19; refine (few_any L A c l _ (HR.out.row.below (box24_bel (blw_drewN HB1.out _)))).mono ?_; rintro e w2 ⟨rfl, hb2⟩; rw [HX.out])
    all_goals
      have HB2 := Lib.hid ((box24_bel (blw_drewN HB1.out _)).trans (hb2.mono (by have := HB1.out.size; simp at this; simp; omega)))
      go_wp2
      go_ret
      exact ⟨rfl, HB2.out⟩
  · go_region_with (first
      | (go_at_call 19; refine (few_any L A c l _ (HR.out.row.below (box24_bel (blw_drewN HB1.out _)))).mono ?_; rintro e w2 ⟨rfl, hb2⟩; rw [HX.out]; (have HB2 := Lib.hid ((blw_drewN HB1.out _).trans (hb2.mono (by have := HB1.out.size; simp at this; simp; omega)))); clear q0 q1 hb2; obtain ⟨⟨q0, q1⟩, l2⟩ := box24 HB2.out)
      | (go_at_call 20; refine (check_any L A c l _ (HR.out.row.below (box24_bel HB2.out)) hids).mono ?_; rintro e w3 ⟨rfl, hb3⟩; (have HB3 := Lib.hid (HB2.out.trans (hb3.mono (by have := HB2.out.size; simp at this; omega)))); clear q0 q1 hb3; obtain ⟨⟨q0, q1⟩, l3⟩ := box24 HB3.out)
      | (go_at_call 21; refine (refCheck_any L A c l _ (HR.out.row.below (box24_bel HB3.out))).mono ?_; rintro e w4 ⟨rfl, hb4⟩; (have HB4 := Lib.hid (HB3.out.trans (hb4.mono (by have := HB3.out.size; simp at this; omega)))); clear q0 q1 hb4; obtain ⟨⟨q0, q1⟩, l4⟩ := box24 HB4.out))
    all_goals
      go_wp2
      go_ret
      exact ⟨rfl, box24_bel HB4.out⟩
end Go.Proofs.Ytckanomabhbkaaa
