/- The law's own take, walked: what is taken in. -/
import Derived.Test.YtckanomabhbkaaaRI
import Derived.Test.YtckanomabhbkaaaDO
namespace Go.Proofs.Ytckanomabhbkaaa
open Go.RowKit Go.Shelf
set_option linter.unusedVariables false
theorem rform_three (r : Rp) : rform r = 0 ∨ rform r = 1 ∨ rform r = 2 := by
  unfold rform
  split
  · exact .inr (.inr rfl)
  · split
    · exact .inr (.inl rfl)
    · exact .inl rfl
theorem take_next {l : List Rp} {i : Nat} (h : i < l.length) : takeL (l.take (i + 1)) = tkStep (takeL (l.take i)) (gr l i) := by
  rw [List.take_succ_eq_append_getElem h, take_snoc, gr_elem h]
set_option maxHeartbeats 3200000 in
theorem takes_any (A : Option Addr) (c : Nat) (l : List Rp) (w : World) (hr : RowAt Rp.cells 3 w A l) :
    Calls Try.prog 57 #[.slice A l.length c] w fun e w' => (∃ A2 c2, e = .returned (.tuple #[.slice A2 (takeL l).length c2, .bool true]) ∧ RpAt w' A2 c2 (takeL l)) ∧ Below w.heap.size w w' := by
  have HR := Lib.hid hr
  have hb := hr.1
  clear hr
  go_enter Try.func57, Try.ntmps57
  go_wp2
  go_loopw [12, 4] (fun u a4 wr => ∃ (i : Nat) (A2 : Option Addr) (c2 N : Nat), u = .int .i64 i ∧ a4 = .slice A2 N c2 ∧ i ≤ l.length ∧ Hid (N = (takeL (l.take i)).length) ∧ Hid (RpAt wr A2 c2 (takeL (l.take i))) ∧ Hid (Below w.heap.size w wr)) (fun u _ _ => (l.length - (intOf u)).toNat)
  case atStart => exact ⟨0, none, 0, 0, rfl, rfl, by omega, Lib.hid (by rw [List.take_zero]; rfl), Lib.hid (by rw [List.take_zero]; exact RpAt.zero _), Lib.hid (Below.refl _ _)⟩
  case round =>
    obtain ⟨i, A2, c2, N, rfl, rfl, hle, HN, HO, HB⟩ := hrel
    by_cases hlt : i < l.length
    · obtain ⟨ad, rfl, k0, k1, k2⟩ := (HR.out.below HB.out).rp i (by omega) (by omega)
      rw [Int.toNat_natCast] at k0 k1 k2
      have HTN := Lib.hid (take_next hlt)
      obtain ⟨r, hrr⟩ : ∃ r, gr l i = r := ⟨_, rfl⟩
      rw [hrr] at k0 k1 k2 HTN
      obtain ⟨T, hT⟩ : ∃ T, takeL (l.take i) = T := ⟨_, rfl⟩
      have HOK := Lib.hid (show Rok T by rw [← hT]; exact take_rok _)
      rw [hT] at HN HO HTN
      have HE0 := Lib.hid (show rputE T r = rform r by unfold rputE; rw [if_neg (by rw [rchk_iff.2 HOK.out]; simp)])
      have HST := Lib.hid (tk_step HOK.out r)
      have g1 : (0 : Int) ≤ i := by omega
      have g2 : (i : Int) < l.length := by omega
      have bi : decide ((i : Int) < l.length) = true := by simp; omega
      have HB3 := Lib.hid (HB.out.alloc HB.out.size (.cells #[.int .i64 r.node, .int .i64 r.parent, .int .i64 r.num] 70))
      have HP := Lib.hid (rput_any A2 c2 T r (wr.alloc (.cells #[.int .i64 r.node, .int .i64 r.parent, .int .i64 r.num] 70)) (HO.out.below ((Below.refl _ _).alloc (Nat.le_refl _) _)))
      have HO3 := Lib.hid (HO.out.below ((Below.refl wr.heap.size wr).alloc (Nat.le_refl _) (.cells #[.int .i64 r.node, .int .i64 r.parent, .int .i64 r.num] 70)))
      unfold RPutAns at HP
      rw [HE0.out] at HP
      rw [← HN.out] at HP
      obtain ⟨F, hF⟩ : ∃ F, rform r = F := ⟨_, rfl⟩
      have h3 := rform_three r
      rw [hF] at HP h3 HST
      clear hrr hT hF
      by_cases f0 : F = 0
      · subst f0
        have b0 : ((0 : Int) == 0) = true := rfl
        obtain ⟨P, hP⟩ : ∃ P, rputL T r = P := ⟨_, rfl⟩
        rw [hP] at HP
        have HT2 := Lib.hid (show takeL (l.take (i + 1)) = P by rw [HTN.out, HST.out, if_pos rfl, hP])
        clear hP h3
        set_option maxRecDepth 100000 in go_wp2_with (go_at_call 45; refine HP.out.mono ?_; rintro e w4 ⟨⟨A4, c4, rfl, hX, _⟩, hb4⟩; (have HX := Lib.hid hX); (have HB4 := Lib.hid (HB3.out.trans (hb4.mono HB3.out.size))); clear hb4 hX)
        go_roundw
        case rel => exact ⟨i + 1, A4, c4, P.length, by simp, rfl, by omega, Lib.hid (by rw [HT2.out]), Lib.hid (by rw [HT2.out]; exact HX.out), HB4⟩
        case measure => simp [intOf]; omega
      · have b0 : (F == 0) = false := by simp [f0]
        have HT2 := Lib.hid (show takeL (l.take (i + 1)) = T by rw [HTN.out, HST.out, if_neg f0])
        have hor : ((F != 2) = false) ∨ ((F != 2) = true ∧ (F != 1) = false) := by
          rcases h3 with h | h | h
          · exact absurd h f0
          · right; subst h; exact ⟨rfl, rfl⟩
          · left; subst h; rfl
        clear h3 f0
        rcases hor with n1 | ⟨n1, n2⟩
        all_goals
          set_option maxRecDepth 100000 in go_wp2_with (go_at_call 45; refine HP.out.mono ?_; rintro e w4 ⟨⟨A4, c4, rfl, hX, _⟩, hb4⟩; (have HO4 := Lib.hid (HO3.out.below hb4)); (have HB4 := Lib.hid (HB3.out.trans (hb4.mono HB3.out.size))); clear hb4 hX)
          go_roundw
          case rel => exact ⟨i + 1, A2, c2, N, by simp, rfl, by omega, Lib.hid (by rw [HT2.out]; exact HN.out), Lib.hid (by rw [HT2.out]; exact HO4.out), HB4⟩
          case measure => simp [intOf]; omega
    · have bi : decide ((i : Int) < l.length) = false := by simp; omega
      obtain rfl : i = l.length := by omega
      have HT := Lib.hid (show takeL (l.take l.length) = takeL l by rw [List.take_of_length_le (Nat.le_refl _)])
      rw [HT.out] at HN HO
      set_option maxRecDepth 100000 in go_wp2
      go_ret2
      exact ⟨⟨A2, c2, by rw [← HN.out]; rfl, HO.out⟩, HB.out⟩
end Go.Proofs.Ytckanomabhbkaaa
