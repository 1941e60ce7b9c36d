/- The chapter's example; DownwardHeaders: walked. -/
import Derived.Test.YtckanomabhbkaaaRF
namespace Go.Proofs.Ytckanomabhbkaaa
open Go.RowKit Go.Shelf
set_option linter.unusedVariables false
set_option maxHeartbeats 3200000 in
theorem awake24_any (w : World) : Calls Try.prog 44 #[] w fun e w' => e = .returned (.bool true) ∧ Below w.heap.size w w' := by
  have hB1 : Below w.heap.size w (w.alloc (.cells #[.int .i64 1, .int .i64 0, .int .i64 1, .int .i64 2, .int .i64 4, .int .i64 1, .int .i64 4, .int .i64 1, .int .i64 1] 70)) := (Below.refl _ _).alloc (Nat.le_refl _) _
  have HB1 := Lib.hid hB1
  have HR1 := Lib.hid (show RpAt (w.alloc (.cells #[.int .i64 1, .int .i64 0, .int .i64 1, .int .i64 2, .int .i64 4, .int .i64 1, .int .i64 4, .int .i64 1, .int .i64 1] 70)) (some ⟨w.heap.size, 0, none⟩) 3 L0 from ⟨RowAt.of_block Rp.cells_len (blk_new w _ rfl) rfl (by decide), by decide, by decide, fun e => by cases e⟩)
  clear hB1
  go_enter Try.func44, Try.ntmps44
  set_option maxRecDepth 100000 in go_wp2_with fail
  refine (Route_any _ 3 L0 2 _ HR1.out).mono ?_
  rintro e w2 ⟨⟨A2, c2, rfl, hI⟩, hb⟩
  rw [aw_E, aw_L]
  rw [aw_L] at hI
  have HI2 := Lib.hid hI.at_
  have HB2 := Lib.hid (HB1.out.trans (hb.mono HB1.out.size))
  have HR2 := Lib.hid (HR1.out.below hb)
  clear hI hb
  set_option maxRecDepth 100000 in go_wp2_with fail
  refine (header_any A2 c2 [0, 1, 4, 2] _ HI2.out).mono ?_
  rintro e w3 ⟨rfl, hb⟩
  rw [aw_HE, aw_HV]
  have HI3 := Lib.hid (HI2.out.below hb)
  have HB3 := Lib.hid (HB2.out.trans (hb.mono HB2.out.size))
  have HR3 := Lib.hid (HR2.out.below hb)
  clear hb
  set_option maxRecDepth 100000 in go_wp2_with fail
  refine (step_any ⟨#[4, 2]⟩ 1 _ (by decide)).mono ?_
  rintro e w4 ⟨rfl, hb⟩
  rw [aw_S]
  have HI4 := Lib.hid (HI3.out.below hb)
  have HB4 := Lib.hid (HB3.out.trans (hb.mono HB3.out.size))
  have HR4 := Lib.hid (HR3.out.below hb)
  clear hb
  set_option maxRecDepth 100000 in go_wp2_with fail
  refine (rput_any _ 3 L0 R0 _ HR4.out).mono ?_
  rintro e w5 ⟨⟨A5, c5, rfl, hP, _⟩, hb⟩
  rw [aw_PE, aw_PC, aw_PL]
  rw [aw_PL] at hP
  have HP5 := Lib.hid hP
  have HI5 := Lib.hid (HI4.out.below hb)
  have HB5 := Lib.hid (HB4.out.trans (hb.mono HB4.out.size))
  clear hb hP
  set_option maxRecDepth 100000 in go_wp2_with fail
  refine (Route_any A5 c5 L1 4 _ HP5.out).mono ?_
  rintro e w6 ⟨⟨A6, c6, rfl, hI⟩, hb⟩
  rw [aw_E2, aw_L2]
  have HI6 := Lib.hid (HI5.out.below hb)
  have HB6 := Lib.hid (HB5.out.trans (hb.mono HB5.out.size))
  clear hb hI
  set_option maxRecDepth 100000 in go_wp2_with fail
  have hb7 : Below w6.heap.size w6 (w6.alloc (.cells #[.int .i64 0, .int .i64 1, .int .i64 4, .int .i64 2] 3)) := (Below.refl _ _).alloc (Nat.le_refl _) _
  refine (equalI_any A2 4 c2 [0, 1, 4, 2] (some ⟨w6.heap.size, 0, none⟩) 4 4 [0, 1, 4, 2] _ rfl rfl (HI6.out.below hb7).row (RowAt.of_block intc_len (blk_new w6 _ rfl) rfl (by decide))).mono ?_
  rintro e w8 ⟨rfl, hb8⟩
  rw [show eqI [0, 1, 4, 2] [0, 1, 4, 2] = true from by decide]
  have HB8 := Lib.hid ((HB6.out.trans (hb7.mono HB6.out.size)).trans (hb8.mono (by have := HB6.out.size; simp; omega)))
  clear hb7 hb8
  set_option maxRecDepth 100000 in go_wp2
  go_ret
  exact ⟨rfl, HB8.out⟩
set_option maxHeartbeats 3200000 in
theorem dHeaders_any (A : Option Addr) (c : Nat) (l : List Int) (s : ByteArray) (self : Int) (w : World) (hs : SlAt intc 1 w A c l) (hz : s.size ≤ 9223372036854775807) :
    Calls Try.prog 11 #[.slice A l.length c, .string s, .int .i64 self] w fun e w' => e = .returned (.bool true) ∧ Below w.heap.size w w' := by
  have HS := Lib.hid hs
  have HA := Lib.hid (awake24_any w)
  have hb := hs.row.1
  clear hs
  by_cases h40 : 40 < l.length
  · have b1 : decide ((40 : Int) < l.length) = true := by simp; omega
    have b1' : decide (40 < l.length) = true := by simp; omega
    go_enter Try.func11, Try.ntmps11
    go_wp2_with (go_at_call 44; refine HA.out.mono ?_; rintro e w1 ⟨rfl, hb1⟩; (have HB1 := Lib.hid hb1); clear hb1)
    go_ret
    exact ⟨rfl, HB1.out⟩
  have b1 : decide ((40 : Int) < l.length) = false := by simp; omega
  have b1' : decide (40 < l.length) = false := by simp; omega
  by_cases h41 : 40 < s.size
  · have b2 : decide ((40 : Int) < s.size) = true := by simp; omega
    have b2' : decide (40 < s.size) = true := by simp; omega
    go_enter Try.func11, Try.ntmps11
    go_wp2_with (go_at_call 44; refine HA.out.mono ?_; rintro e w1 ⟨rfl, hb1⟩; (have HB1 := Lib.hid hb1); clear hb1)
    go_ret
    exact ⟨rfl, HB1.out⟩
  have b2 : decide ((40 : Int) < s.size) = false := by simp; omega
  have b2' : decide (40 < s.size) = false := by simp; omega
  have HH := Lib.hid (fun W (h : Below w.heap.size w W) => header_any A c l W (HS.out.below h))
  have HH2 := Lib.hid (fun W (h : Below w.heap.size w W) => refHeader_any A c l W (HS.out.below h))
  have HT := Lib.hid (fun W => step_any s self W (by omega))
  have HT2 := Lib.hid (fun W => refStep_any s self W (by omega))
  obtain ⟨v, hv⟩ : ∃ v, hdrV l = v := ⟨_, rfl⟩
  obtain ⟨E, hE⟩ : ∃ E, hdrE l = E := ⟨_, rfl⟩
  rw [hv, hE] at HH HH2
  obtain ⟨n, r, F, hF⟩ : ∃ n r F, stepAns s self = .tuple #[.int .i64 n, .string r, .int .i64 F] := ⟨_, _, _, rfl⟩
  rw [hF] at HT HT2
  clear hv hE hF
  go_enter Try.func11, Try.ntmps11
  set_option maxRecDepth 100000 in go_wp2_with (first | (go_at_call 44; refine HA.out.mono ?_; rintro e w1 ⟨rfl, hb1⟩; (have HB1 := Lib.hid hb1); clear hb1) | (go_at_call 50; refine (HH.out _ HB1.out).mono ?_; rintro e w2 ⟨rfl, hb2⟩; (have HB2 := Lib.hid (HB1.out.trans (hb2.mono HB1.out.size))); clear hb2) | (go_at_call 51; refine (HH2.out _ HB2.out).mono ?_; rintro e w3 ⟨rfl, hb3⟩; (have HB3 := Lib.hid (HB2.out.trans (hb3.mono HB2.out.size))); clear hb3) | (go_at_call 52; refine (HT.out _).mono ?_; rintro e w4 ⟨rfl, hb4⟩; (have HB4 := Lib.hid (HB3.out.trans (hb4.mono HB3.out.size))); clear hb4) | (go_at_call 53; refine (HT2.out _).mono ?_; rintro e w5 ⟨rfl, hb5⟩; (have HB5 := Lib.hid (HB4.out.trans (hb5.mono HB4.out.size))); clear hb5))
  go_ret
  exact ⟨rfl, HB5.out⟩
theorem downwardHeaders_any (A : Option Addr) (c : Nat) (l : List Int) (s : ByteArray) (self : Int) (w : World) (hs : SlAt intc 1 w A c l) (hz : s.size ≤ maxLen) (hw : (Lit.int .i64 self).wf = true) :
    Calls Try.prog 11 #[.slice A l.length c, .string s, .int .i64 self] w fun e w' => e = .returned (.bool true) ∧ Below w.heap.size w w' :=
  dHeaders_any A c l s self w hs (by unfold maxLen at hz; omega)
end Go.Proofs.Ytckanomabhbkaaa
