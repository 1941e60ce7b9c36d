/- DownwardPuts: walked. -/
import Derived.Test.YtckanomabhbkaaaRG
import Derived.Test.YtckanomabhbkaaaDE
import Derived.Test.YtckanomabhbkaaaDF
namespace Go.Proofs.Ytckanomabhbkaaa
open Go.RowKit Go.Shelf
set_option linter.unusedVariables false
set_option maxHeartbeats 3200000 in
theorem downwardPuts_any (A : Option Addr) (c : Nat) (l : List Rp) (r : Rp) (w : World) (hr : RpAt w A c l) :
    Calls Try.prog 10 #[.slice A l.length c, .agg #[.int .i64 r.node, .int .i64 r.parent, .int .i64 r.num]] w fun e w' => e = .returned (.bool true) ∧ Below w.heap.size w w' := by
  have HR := Lib.hid hr
  have hb := hr.row.1
  have hu70 := Try.underlying70
  have hW := (Below.refl w.heap.size w).alloc (Nat.le_refl _) (.cells #[.int .i64 r.node, .int .i64 r.parent, .int .i64 r.num] 70)
  have HQ := Lib.hid (blk_new w (.cells #[.int .i64 r.node, .int .i64 r.parent, .int .i64 r.num] 70) rfl)
  have hz : (w.alloc (.cells #[.int .i64 r.node, .int .i64 r.parent, .int .i64 r.num] 70)).heap.size = w.heap.size + 1 := by simp
  obtain ⟨w0, hw0⟩ : ∃ w0, w.alloc (.cells #[.int .i64 r.node, .int .i64 r.parent, .int .i64 r.num] 70) = w0 := ⟨_, rfl⟩
  rw [hw0] at hW HQ hz
  have HW := Lib.hid hW
  have HA := Lib.hid (awake24_any w0)
  clear hr hW
  by_cases h40 : 40 < l.length
  · have b1 : decide ((40 : Int) < l.length) = true := by simp; omega
    have b1' : decide (40 < l.length) = true := by simp; omega
    go_enter Try.func10, Try.ntmps10
    go_wp2_with (go_at_call 44; refine HA.out.mono ?_; rintro e w1 ⟨rfl, hb1⟩; (have HB1 := Lib.hid (HW.out.trans (hb1.mono HW.out.size))); clear hb1)
    go_ret
    exact ⟨rfl, HB1.out⟩
  have b1 : decide ((40 : Int) < l.length) = false := by simp; omega
  have b1' : decide (40 < l.length) = false := by simp; omega
  have HP := Lib.hid (fun W (h : Below w.heap.size w W) => rput_any A c l r W (HR.out.below h))
  have HP2 := Lib.hid (fun W (h : Below w.heap.size w W) => refRput_any A c l r W (HR.out.below h))
  have HC := Lib.hid (fun W (h : Below w.heap.size w W) => rcheck_any A c l W (HR.out.below h))
  have HC2 := Lib.hid (fun W (h : Below w.heap.size w W) => refRcheck_any A c l W (HR.out.below h))
  obtain ⟨E, hE⟩ : ∃ E, rchk l = E := ⟨_, rfl⟩
  rw [hE] at HC HC2
  obtain ⟨P, hP⟩ : ∃ P, rputL l r = P := ⟨_, rfl⟩
  obtain ⟨F, hF⟩ : ∃ F, rputE l r = F := ⟨_, rfl⟩
  obtain ⟨B, hB⟩ : ∃ B, rputC l r = B := ⟨_, rfl⟩
  unfold RPutAns at HP HP2
  rw [hP, hF, hB] at HP HP2
  clear hE hP hF hB
  go_enter Try.func10, Try.ntmps10
  go_wp2_with (go_at_call 44; refine HA.out.mono ?_; rintro e w1 ⟨rfl, hb1⟩; (have HB1 := Lib.hid (HW.out.trans (hb1.mono HW.out.size))); (have HQ1 := Lib.hid (blk_below HQ.out hb1 (by omega))); clear hb1; obtain ⟨q0, q1, q2⟩ := box3 HQ1.out)
  refine (HP.out _ HB1.out).mono ?_
  rintro e w2 ⟨⟨A2, c2, rfl, hP2, _⟩, hb2⟩
  have HQ2 := Lib.hid (blk_below HQ1.out hb2 (blk_lt HQ1.out))
  have HB2 := Lib.hid (HB1.out.trans (hb2.mono HB1.out.size))
  have HX2 := Lib.hid hP2.row
  clear hb2 hP2 q0 q1 q2
  obtain ⟨q0, q1, q2⟩ := box3 HQ2.out
  go_wp2_with fail
  refine (HP2.out _ HB2.out).mono ?_
  rintro e w3 ⟨⟨A3, c3, rfl, hP3, _⟩, hb3⟩
  have HX3 := Lib.hid (HX2.out.below hb3)
  have HB3 := Lib.hid (HB2.out.trans (hb3.mono HB2.out.size))
  have HY3 := Lib.hid hP3.row
  clear hb3 hP3 q0 q1 q2
  go_wp2_with (first | (go_at_call 47; refine (HC.out _ HB3.out).mono ?_; rintro e w4 ⟨rfl, hb4⟩; (have HX4 := Lib.hid (HX3.out.below hb4)); (have HY4 := Lib.hid (HY3.out.below hb4)); (have HB4 := Lib.hid (HB3.out.trans (hb4.mono HB3.out.size))); clear hb4) | (go_at_call 48; refine (HC2.out _ HB4.out).mono ?_; rintro e w5 ⟨rfl, hb5⟩; (have HX5 := Lib.hid (HX4.out.below hb5)); (have HY5 := Lib.hid (HY4.out.below hb5)); (have HB5 := Lib.hid (HB4.out.trans (hb5.mono HB4.out.size))); clear hb5) | (go_at_call 49; refine (refSame_any A2 c2 P A3 c3 P _ HX5.out HY5.out).mono ?_; rintro e w6 ⟨rfl, hb6⟩; (have hs : sameRp P P = true := sameRp_iff.2 rfl); rw [hs]; (have HB6 := Lib.hid (HB5.out.trans (hb6.mono HB5.out.size))); clear hb6))
  go_ret
  exact ⟨rfl, HB6.out⟩
end Go.Proofs.Ytckanomabhbkaaa
