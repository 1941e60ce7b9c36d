/- Is a header right: the program's walk. -/
import Derived.Test.YtckanomabhbkaaaDY
namespace Go.Proofs.Ytckanomabhbkaaa
open Go.RowKit Go.Shelf
set_option linter.unusedVariables false
set_option maxHeartbeats 3200000 in
theorem right_any (s : ByteArray) (w : World) (hs : s.size ≤ 17592186044416) :
    Calls Try.prog 97 #[.string s] w fun e w' => e = .returned (.bool (rightI (bI s))) ∧ Below w.heap.size w w' := by
  have hl := bI_len s
  have HL := Lib.hid hl
  clear hl
  go_enter Try.func97, Try.ntmps97
  go_wp2
  go_loopw [3, 7] (fun u v wr => ∃ i : Nat, v = .int .i64 i ∧ i ≤ s.size ∧ Hid (Own intc 1 wr w.heap.size 3 u ((bI s).take i)) ∧ Hid (∀ j : Nat, j < i → 0 ≤ (bI s).getD j 0 ∧ (bI s).getD j 0 < 32) ∧ Hid (Below w.heap.size w wr)) (fun _ v _ => (s.size - (intOf v)).toNat)
  case atStart => exact ⟨0, rfl, by omega, Lib.hid (by rw [List.take_zero]; exact Own.nil _ _ _), Lib.hid (fun j h => by omega), Lib.hid (Below.refl _ _)⟩
  case round =>
    obtain ⟨i, rfl, hle, HOW, HIN, HB⟩ := hrel
    by_cases hlt : i < s.size
    · have hil : i < (bI s).length := by rw [HL.out]; exact hlt
      have g1 : (0 : Int) ≤ i := by omega
      have g2 : (i : Int) < s.size := by omega
      have bl : decide ((i : Int) < s.size) = true := by simp; omega
      have hget := bI_get s hlt
      have hb1 : (s[i].toNat : Int) ≤ 255 := by have := UInt8.toNat_lt s[i]; omega
      have hb0 : (0 : Int) ≤ s[i].toNat := by omega
      have HG := Lib.hid hget
      clear hget
      obtain ⟨T, hT⟩ : ∃ T, (bI s).take i = T := ⟨_, rfl⟩
      have HTN := Lib.hid (show (bI s).take (i + 1) = T ++ [(s[i].toNat : Int)] by rw [take_succ_getD hil, hT, HG.out])
      have HTL := Lib.hid (show T.length = i by rw [← hT, List.length_take]; omega)
      rw [hT] at HOW
      clear hT
      have hfm := HOW.out.form
      obtain ⟨A6, c6, rfl, hle6, hcm6⟩ := hfm
      have HC := Lib.hid (node_any s[i].toNat wr)
      obtain ⟨m, hm⟩ : ∃ m, nodeB s[i].toNat = m := ⟨_, rfl⟩
      rw [hm] at HC
      have HM := Lib.hid hm
      clear hm
      cases m
      · have HE := Lib.hid (rightI_out hil (by rw [HG.out, ← nodeB_iff, HM.out]; simp))
        go_wp2_with (go_at_call 94; refine HC.out.mono ?_; rintro e w' ⟨rfl, rfl⟩)
        go_ret
        exact ⟨ret_bool HE.out.symm, HB.out⟩
      · have HIN2 := Lib.hid (show ∀ j : Nat, j < i + 1 → 0 ≤ (bI s).getD j 0 ∧ (bI s).getD j 0 < 32 from fun j hj => by
          by_cases e : j = i
          · subst e; rw [HG.out]; exact nodeB_iff.1 HM.out
          · exact HIN.out j (by omega))
        go_wp2_with (first | (go_at_call 94; refine HC.out.mono ?_; rintro e w' ⟨rfl, rfl⟩) | (at_builtin; refine Own.append intc_len intc_one rfl _ _ 40 3 (.int .i64 0) 8 rfl Try.underlying40 info3 rfl (by decide) (by decide) (.slice A6 T.length c6) T rfl (base := w.heap.size) (HOW.out.alloc _) ⟨wr.heap.size, 0, none⟩ [(s[i].toNat : Int)] 1 rfl (RowAt.new wr (s[i].toNat : Int) #[.int .i64 s[i].toNat] 3 rfl) (by have := HB.out.size; simp; omega) (by have := HTL.out; simp; omega) ?_; intro v1 w4 hO4 hg4 _; (have HO4 := Lib.hid hO4); (have HB4 := Lib.hid ((HB.out.alloc HB.out.size _).grown hg4 (by have := HB.out.size; simp; omega) (fun k e => (HOW.out.lt e).1))); clear hO4 hg4))
        go_roundw
        case rel => exact ⟨i + 1, by simp, by omega, Lib.hid (by rw [HTN.out]; exact HO4.out), HIN2, HB4⟩
        case measure => simp [intOf]; omega
    · have bl : decide ((i : Int) < s.size) = false := by simp; omega
      obtain rfl : i = s.size := by omega
      obtain ⟨T, hT⟩ : ∃ T, bI s = T := ⟨_, rfl⟩
      have hTL : T.length = s.size := by rw [← hT]; exact HL.out
      rw [List.take_of_length_le (by rw [HL.out]; exact Nat.le_refl _), hT] at HOW
      rw [hT] at HIN ⊢
      have HIT := Lib.hid (show ∀ x ∈ T, 0 ≤ x ∧ x < 32 from fun x hx => by
        obtain ⟨j, hj, rfl⟩ := List.getElem_of_mem hx
        have := HIN.out j (by omega)
        rwa [List.getD_eq_getElem?_getD, List.getElem?_eq_getElem hj] at this)
      have HTL := Lib.hid hTL
      have HBT := Lib.hid hT
      clear hT hTL
      have hfm := HOW.out.form
      obtain ⟨A6, c6, rfl, hle6, hcm6⟩ := hfm
      obtain ⟨n6, hn6⟩ : ∃ n6, T.length = n6 := ⟨_, rfl⟩
      rw [hn6] at HOW hle6 HTL ⊢
      have HN6 := Lib.hid hn6
      have hle6' : (n6 : Int) ≤ 17592186044416 := by have := HTL.out; omega
      have HC := Lib.hid (show Calls Try.prog 95 #[.slice A6 n6 c6] wr fun e w' => e = .returned (.bool (dupB T)) ∧ Below wr.heap.size wr w' by
        have h := twice_any A6 c6 T wr (Own.slAt intc_len (show Own intc 1 wr w.heap.size 3 (.slice A6 T.length c6) T by rw [hn6]; exact HOW.out)).row HIT.out
        rwa [hn6] at h)
      obtain ⟨d, hd⟩ : ∃ d, dupB T = d := ⟨_, rfl⟩
      rw [hd] at HC
      have HD := Lib.hid hd
      clear hn6 hd
      by_cases h8 : n6 ≤ 8
      · have b8 : decide ((n6 : Int) ≤ 8) = true := by simp; omega
        have b8' : decide (n6 ≤ 8) = true := by simp; omega
        have HE := Lib.hid (show rightI T = !d by unfold rightI; rw [HN6.out, b8', outB_no.2 HIT.out, HD.out]; rfl)
        cases d
        all_goals
          go_wp2_with (go_at_call 95; refine HC.out.mono ?_; rintro e w4 ⟨rfl, hb4⟩; (have HB4 := Lib.hid (HB.out.trans (hb4.mono HB.out.size))); clear hb4)
          go_ret
          exact ⟨ret_bool (by rw [HBT.out, HE.out]; rfl), HB4.out⟩
      · have b8 : decide ((n6 : Int) ≤ 8) = false := by simp; omega
        have b8' : decide (n6 ≤ 8) = false := by simp; omega
        have HE := Lib.hid (rightI_len (l := T) (by rw [HN6.out]; omega))
        go_wp2
        go_ret
        exact ⟨ret_bool (by rw [HBT.out, HE.out]), HB.out⟩
end Go.Proofs.Ytckanomabhbkaaa
