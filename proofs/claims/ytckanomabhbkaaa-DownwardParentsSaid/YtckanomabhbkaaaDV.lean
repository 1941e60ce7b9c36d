/- The reference's Header, walked. -/
import Derived.Test.YtckanomabhbkaaaDU
namespace Go.Proofs.Ytckanomabhbkaaa
open Go.RowKit Go.Shelf
set_option linter.unusedVariables false
theorem getD_mem {l : List Int} {i : Nat} (h : i < l.length) : l.getD i 0 ∈ l := by
  rw [List.getD_eq_getElem?_getD, List.getElem?_eq_getElem h]; exact List.getElem_mem _
theorem outB_hit {l : List Int} {i : Nat} (h : i < l.length) (hn : ¬ (0 ≤ l.getD i 0 ∧ l.getD i 0 < 32)) : outB l = true := by
  cases hb : outB l
  · exact absurd (outB_no.1 hb _ (getD_mem h)) hn
  · rfl
theorem dup_hit {l : List Int} {i : Nat} (h : i < l.length) (hm : memB (l.take i) (l.getD i 0) = true) : dupB l = true := by
  rw [dupB_yes]
  intro hn
  have h1 : (l.take (i + 1)).Nodup := hn.sublist (List.take_sublist _ _)
  rw [take_succ_getD h, List.nodup_append] at h1
  unfold memB at hm
  rw [decide_eq_true_iff] at hm
  exact h1.2.2 _ hm _ (by simp) rfl
theorem dup_next {l : List Int} {i : Nat} (h : i < l.length) (hn : (l.take i).Nodup) (hm : memB (l.take i) (l.getD i 0) = false) : (l.take (i + 1)).Nodup := by
  unfold memB at hm
  rw [decide_eq_false_iff_not] at hm
  rw [take_succ_getD h, List.nodup_append]
  exact ⟨hn, by simp, fun a ha b hb e => by rw [List.mem_singleton] at hb; subst hb; exact hm (e ▸ ha)⟩
theorem hdrV_no {l : List Int} (h : hdrE l ≠ 0) : hdrV l = ⟨#[]⟩ := by unfold hdrV hdrL; rw [if_neg h]
theorem hdrV_yes {l : List Int} (h : hdrE l = 0) : hdrV l = ⟨(l.tail.map byteI).toArray⟩ := by unfold hdrV hdrL; rw [if_pos h]
theorem ret_hdr {l : List Int} {E : Int} (h : hdrE l = E) (h0 : E ≠ 0) : Ending.returned (.tuple #[.string ⟨#[]⟩, .int .i64 E]) = .returned (.tuple #[.string (hdrV l), .int .i64 (hdrE l)]) := by
  rw [hdrV_no (by rw [h]; exact h0), h]
set_option maxHeartbeats 3200000 in
theorem refHeader_bad (A : Option Addr) (c : Nat) (l : List Int) (w : World) (hr : RowAt intc 1 w A l) (hE : outB l = true) :
    Calls Try.prog 51 #[.slice A l.length c] w fun e w' => e = .returned (.tuple #[.string (hdrV l), .int .i64 (hdrE l)]) ∧ Below w.heap.size w w' := by
  have HR := Lib.hid hr
  have hb := hr.1
  have HE := Lib.hid (show hdrE l = 2 by unfold hdrE; rw [if_pos hE])
  have HO := Lib.hid hE
  clear hr hE
  go_enter Try.func51, Try.ntmps51
  go_wp2
  go_loop [4] (fun v => ∃ i : Nat, v = .int .i64 i ∧ i ≤ l.length ∧ Hid (∀ j : Nat, j < i → 0 ≤ l.getD j 0 ∧ l.getD j 0 < 32)) (fun v => (l.length - (intOf v)).toNat)
  case atStart => exact ⟨0, rfl, by omega, fun j h => by omega⟩
  case round =>
    obtain ⟨i, rfl, hle, HN⟩ := hrel
    by_cases hlt : i < l.length
    · obtain ⟨ad, rfl, c0⟩ := HR.out.int i hlt
      have g1 : (0 : Int) ≤ i := by omega
      have g2 : (i : Int) < l.length := by omega
      have bl : decide ((i : Int) < l.length) = true := by simp; omega
      obtain ⟨x, hx⟩ : ∃ x, l.getD i 0 = x := ⟨_, rfl⟩
      rw [hx] at c0
      have HX := Lib.hid hx
      clear hx
      have hor : (decide (x < 0) = true) ∨ (decide (x < 0) = false ∧ decide (32 ≤ x) = true) ∨ (decide (x < 0) = false ∧ decide (32 ≤ x) = false ∧ Hid (0 ≤ x ∧ x < 32)) := by
        by_cases h1 : x < 0
        · left; simp [h1]
        · by_cases h2 : 32 ≤ x
          · right; left; simp [h1, h2]
          · right; right; exact ⟨by simp [h1], by simp [h2], by omega, by omega⟩
      rcases hor with b1 | ⟨b1, b2⟩ | ⟨b1, b2, HI⟩
      · go_wp2
        go_ret2
        exact ⟨ret_hdr HE.out (by decide), Below.refl _ _⟩
      · go_wp2
        go_ret2
        exact ⟨ret_hdr HE.out (by decide), Below.refl _ _⟩
      · have HN2 := Lib.hid (show ∀ j : Nat, j < i + 1 → 0 ≤ l.getD j 0 ∧ l.getD j 0 < 32 from fun j hj => by
          by_cases e : j = i
          · subst e; rw [HX.out]; exact HI.out
          · exact HN.out j (by omega))
        go_wp2
        go_round
        case rel => exact ⟨i + 1, by simp, by omega, HN2⟩
        case measure => simp [intOf]; omega
    · exfalso
      obtain rfl : i = l.length := by omega
      have : outB l = false := by
        rw [outB_no]
        intro x hx
        obtain ⟨j, hj, rfl⟩ := List.getElem_of_mem hx
        have := HN.out j hj
        rwa [List.getD_eq_getElem?_getD, List.getElem?_eq_getElem hj] at this
      rw [HO.out] at this; cases this
theorem tail_snoc {l : List Int} {i : Nat} (h1 : 1 ≤ i) (h : i < l.length) : (l.take (i + 1)).tail = (l.take i).tail ++ [l.getD i 0] := by
  rw [take_succ_getD h]
  cases hl : l.take i with
  | nil =>
    have := congrArg List.length hl
    rw [List.length_take, List.length_nil] at this
    omega
  | cons a t => rfl
set_option maxHeartbeats 6400000 in
theorem refHeader_ok (A : Option Addr) (c : Nat) (l : List Int) (w : World) (hs : SlAt intc 1 w A c l) (hE : outB l = false) :
    Calls Try.prog 51 #[.slice A l.length c] w fun e w' => e = .returned (.tuple #[.string (hdrV l), .int .i64 (hdrE l)]) ∧ Below w.heap.size w w' := by
  have hr := hs.row
  have hlc := hs.le
  have hcc := hs.cap
  have HR := Lib.hid hr
  have hb := hr.1
  have HIN := Lib.hid (outB_no.1 hE)
  have HO := Lib.hid hE
  have HND := Lib.hid (show (l.take 0).Nodup by rw [List.take_zero]; exact List.nodup_nil)
  clear hr hE hs
  go_enter Try.func51, Try.ntmps51
  go_wp2
  go_loop [4] (fun v => ∃ i : Nat, v = .int .i64 i ∧ i ≤ l.length) (fun v => (l.length - (intOf v)).toNat)
  case atStart => exact ⟨0, rfl, by omega⟩
  case round =>
    obtain ⟨i, rfl, hle⟩ := hrel
    by_cases hlt : i < l.length
    · obtain ⟨ad, rfl, c0⟩ := HR.out.int i hlt
      have g1 : (0 : Int) ≤ i := by omega
      have g2 : (i : Int) < l.length := by omega
      have bl : decide ((i : Int) < l.length) = true := by simp; omega
      obtain ⟨x, hx⟩ : ∃ x, l.getD i 0 = x := ⟨_, rfl⟩
      have hx2 := HIN.out _ (getD_mem hlt)
      rw [hx] at c0 hx2
      clear hx
      have b1 : decide (x < 0) = false := by simp; omega
      have b2 : decide (32 ≤ x) = false := by simp; omega
      go_wp2
      go_round
      case rel => exact ⟨i + 1, by simp, by omega⟩
      case measure => simp [intOf]; omega
    · have bl : decide ((i : Int) < l.length) = false := by simp; omega
      obtain rfl : i = l.length := by omega
      go_wp2
      go_loopw [5] (fun v wr => ∃ i : Nat, v = .int .i64 i ∧ i ≤ l.length ∧ Hid (l.take i).Nodup ∧ Hid (Below w.heap.size w wr)) (fun v _ => (l.length - (intOf v)).toNat)
      case atStart => exact ⟨0, rfl, by omega, HND.out, Below.refl _ _⟩
      case round =>
        obtain ⟨i, rfl, hle, HN, HB⟩ := hrel
        by_cases hlt : i < l.length
        · obtain ⟨ad, rfl, c0⟩ := (HR.out.below HB.out).int i hlt
          have g1 : (0 : Int) ≤ i := by omega
          have g2 : (i : Int) < l.length := by omega
          have g3 : (i : Int) ≤ l.length := by omega
          have g4 : (i : Int) ≤ c := by omega
          have g5 : (0 : Int) ≤ c := by omega
          have bl2 : decide ((i : Int) < l.length) = true := by simp; omega
          obtain ⟨x, hx⟩ : ∃ x, l.getD i 0 = x := ⟨_, rfl⟩
          rw [hx] at c0
          obtain ⟨m, hm⟩ : ∃ m, memB (l.take i) x = m := ⟨_, rfl⟩
          have HM := Lib.hid (show memB (l.take i) (l.getD i 0) = m by rw [hx, hm])
          have HC := Lib.hid (show ∀ n : Nat, Calls Try.prog 96 #[.slice (some ad) i c, .int .i64 x] (wr.drewN n) fun e w' => e = .returned (.bool m) ∧ w' = wr.drewN n from fun n => by rw [← hm]; exact (has_any (some ad) i c (l.take i) x (wr.drewN n) (by rw [List.length_take]; omega) ((show RowAt intc 1 (wr.drewN n) (some ad) l from HR.out.below (blw_drewN HB.out n)).takeN i)).mono fun _ _ ⟨h1, h2⟩ => ⟨h1, h2.symm⟩)
          clear hx hm
          cases m
          · have HN2 := Lib.hid (dup_next hlt HN.out HM.out)
            go_wp2_with fail
            go_quiet ((go_at_call 96; exact Calls.quiet_of_same (HC.out _)))
            go_wp2
            go_roundw
            case rel => exact ⟨i + 1, by simp, by omega, HN2, blw_drewN HB.out _⟩
            case measure => simp [intOf]; omega
          · have HE := Lib.hid (show hdrE l = 6 by unfold hdrE; rw [HO.out, if_neg (by simp), if_pos (dup_hit hlt HM.out)])
            go_wp2_with fail
            go_quiet ((go_at_call 96; exact Calls.quiet_of_same (HC.out _)))
            go_wp2
            go_ret2
            exact ⟨ret_hdr HE.out (by decide), blw_drewN HB.out _⟩
        · have bl2 : decide ((i : Int) < l.length) = false := by simp; omega
          obtain rfl : i = l.length := by omega
          have HD := Lib.hid (show dupB l = false by rw [dupB_no]; have := HN.out; rwa [List.take_of_length_le (Nat.le_refl _)] at this)
          by_cases h0 : l.length = 0
          · have HE := Lib.hid (show hdrE l = 9 by unfold hdrE; rw [HO.out, HD.out, if_neg (by simp), if_neg (by simp), if_pos (List.eq_nil_of_length_eq_zero h0)])
            have b0 : ((l.length : Int) == 0) = true := beq_iff_eq.2 (by omega)
            have b0' : (l.length == 0) = true := beq_iff_eq.2 h0
            clear h0
            go_wp2
            go_ret2
            exact ⟨ret_hdr HE.out (by decide), HB.out⟩
          have b0 : ((l.length : Int) == 0) = false := beq_eq_false_iff_ne.2 (by omega)
          have b0' : (l.length == 0) = false := beq_eq_false_iff_ne.2 h0
          by_cases h9 : 9 < l.length
          · have HE := Lib.hid (show hdrE l = 8 by unfold hdrE; rw [HO.out, HD.out, if_neg (by simp), if_neg (by simp), if_neg (by intro e; rw [e] at h0; simp at h0), if_pos h9])
            have b9 : decide ((9 : Int) < l.length) = true := by simp; omega
            have b9' : decide (9 < l.length) = true := by simp; omega
            go_wp2
            go_ret2
            exact ⟨ret_hdr HE.out (by decide), HB.out⟩
          have HE := Lib.hid (show hdrE l = 0 by unfold hdrE; rw [HO.out, HD.out, if_neg (by simp), if_neg (by simp), if_neg (by intro e; rw [e] at h0; simp at h0), if_neg h9])
          have b9 : decide ((9 : Int) < l.length) = false := by simp; omega
          have b9' : decide (9 < l.length) = false := by simp; omega
          go_wp2
          obtain ⟨wo, rfl⟩ : ∃ wo : World, wo = wr := ⟨_, rfl⟩
          have HT1 := Lib.hid (show (l.take 1).tail.map byteI = [] by cases l <;> simp)
          go_loopw [6, 7] (fun u v wr => ∃ i : Nat, v = .int .i64 i ∧ 1 ≤ i ∧ i ≤ l.length ∧ Hid (Own byc 1 wr wo.heap.size 5 u ((l.take i).tail.map byteI)) ∧ Hid (Below wo.heap.size wo wr)) (fun _ v _ => (l.length - (intOf v)).toNat)
          case atStart => exact ⟨1, by simp, by omega, by omega, by rw [HT1.out]; exact Own.nil _ _ _, Below.refl _ _⟩
          case round =>
            obtain ⟨i, rfl, hi1, hil, HOW, HBT⟩ := hrel
            have HBR := Lib.hid (HB.out.trans (HBT.out.mono HB.out.size))
            by_cases hlt : i < l.length
            · obtain ⟨ad, rfl, c0⟩ := (HR.out.below HBR.out).int i hlt
              have g1 : (0 : Int) ≤ i := by omega
              have g2 : (i : Int) < l.length := by omega
              have bl3 : decide ((i : Int) < l.length) = true := by simp; omega
              obtain ⟨x, hx⟩ : ∃ x, l.getD i 0 = x := ⟨_, rfl⟩
              have hx2 := HIN.out _ (getD_mem hlt)
              rw [hx] at c0 hx2
              have HT2 := Lib.hid (show (l.take (i + 1)).tail.map byteI = (l.take i).tail.map byteI ++ [byteI x] by rw [tail_snoc hi1 hlt, List.map_append, hx]; rfl)
              obtain ⟨T, hT⟩ : ∃ T, (l.take i).tail.map byteI = T := ⟨_, rfl⟩
              rw [hT] at HOW HT2
              have HTL := Lib.hid (show T.length = i - 1 by rw [← hT]; simp; omega)
              have HBX := Lib.hid (show byc (byteI x) = (#[Value.int .u8 x] : Array Value).toList by unfold byc; rw [byteI_nat hx2.1 hx2.2])
              clear hx hT
              have hfm := HOW.out.form
              obtain ⟨A6, c6, rfl, hle6, hcm6⟩ := hfm
              go_wp2_with (at_builtin; refine Own.append byc_len byc_one rfl _ _ 82 5 (.int .u8 0) 1 rfl Try.underlying82 info5 rfl (by decide) (by decide) (.slice A6 T.length c6) T rfl (base := wo.heap.size) (HOW.out.alloc _) ⟨wr.heap.size, 0, none⟩ [byteI x] 1 rfl (RowAt.new wr (byteI x) _ 5 HBX.out) (by have := HBT.out.size; simp; omega) (by have := HTL.out; simp; omega) ?_; intro v1 w4 hO4 hg4 _; (have HO4 := Lib.hid hO4); (have HB4 := Lib.hid ((HBT.out.alloc HBT.out.size _).grown hg4 (by have := HBT.out.size; simp; omega) (fun k e => (HOW.out.lt e).1))); clear hO4 hg4)
              go_roundw
              case rel => exact ⟨i + 1, by simp, by omega, by omega, by rw [HT2.out]; exact HO4.out, HB4.out⟩
              case measure => simp [intOf]; omega
            · have bl3 : decide ((i : Int) < l.length) = false := by simp; omega
              obtain rfl : i = l.length := by omega
              obtain ⟨T, hT⟩ : ∃ T, (l.take l.length).tail.map byteI = T := ⟨_, rfl⟩
              rw [hT] at HOW
              have HV := Lib.hid (show hdrV l = ⟨T.toArray⟩ by rw [hdrV_yes HE.out, ← hT, List.take_of_length_le (Nat.le_refl _)])
              clear hT
              have hfm := HOW.out.form
              obtain ⟨A6, c6, rfl, hle6, hcm6⟩ := hfm
              have hcv := conv_row (c := c6) (HOW.out.slAt byc_len).row
              obtain ⟨n6, hn6⟩ : ∃ n6, T.length = n6 := ⟨_, rfl⟩
              rw [hn6] at hcv
              rw [hn6]
              clear hn6
              go_wp2
              go_ret2
              exact ⟨by rw [HV.out, HE.out]; rfl, HBR.out⟩
theorem refHeader_any (A : Option Addr) (c : Nat) (l : List Int) (w : World) (hs : SlAt intc 1 w A c l) :
    Calls Try.prog 51 #[.slice A l.length c] w fun e w' => e = .returned (.tuple #[.string (hdrV l), .int .i64 (hdrE l)]) ∧ Below w.heap.size w w' := by
  cases h : outB l
  · exact refHeader_ok A c l w hs h
  · exact refHeader_bad A c l w hs.row h
end Go.Proofs.Ytckanomabhbkaaa
