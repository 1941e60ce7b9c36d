/- DownwardLeads: walked. -/
import Derived.Test.YtckanomabhbkaaaRG
namespace Go.Proofs.Ytckanomabhbkaaa
open Go.RowKit Go.Shelf
set_option linter.unusedVariables false
/-- What is left of a route's header when the node j of it is reached. -/
def hS (l : List Int) (j : Nat) : ByteArray := ⟨((l.drop (j + 1)).map byteI).toArray⟩
theorem hS_size (l : List Int) (j : Nat) : (hS l j).size = l.length - (j + 1) := by
  show ((l.drop (j + 1)).map byteI).toArray.size = _
  simp
theorem hS_sI (l : List Int) (j : Nat) : sI (hS l j) = (l.drop (j + 1)).map byteI := by simp [sI, hS]
theorem hS_zero {l : List Int} (h : hdrE l = 0) : hdrV l = hS l 0 := by
  rw [hdrV_yes h]
  unfold hS
  rw [Nat.zero_add, List.drop_one]
theorem hS_step {l : List Int} (h : hdrE l = 0) {j : Nat} (hj : j + 1 < l.length) : stepAns (hS l j) (l.getD j 0) = .tuple #[.int .i64 (l.getD (j + 1) 0), .string (hS l (j + 1)), .int .i64 0] := by
  obtain ⟨h1, h2, h3, h4⟩ := hdrE_ok h
  have e : l.drop j = l.getD j 0 :: l.getD (j + 1) 0 :: l.drop (j + 1 + 1) := by
    rw [List.drop_eq_getElem_cons (by omega), List.drop_eq_getElem_cons hj]
    rw [List.getD_eq_getElem?_getD, List.getElem?_eq_getElem (by omega), List.getD_eq_getElem?_getD, List.getElem?_eq_getElem hj]
    rfl
  have e2 : l.drop (j + 1) = l.getD (j + 1) 0 :: l.drop (j + 1 + 1) := by
    rw [List.drop_eq_getElem_cons hj, List.getD_eq_getElem?_getD, List.getElem?_eq_getElem hj]
    rfl
  have hs := step_go (a := l.getD j 0) (n := l.getD (j + 1) 0) (l := l.drop (j + 1 + 1)) (by rw [← e]; exact h2.sublist (List.drop_sublist _ _)) (fun x hx => h1 x (by rw [← e] at hx; exact List.mem_of_mem_drop hx)) (by rw [List.length_drop]; omega)
  unfold stepAns
  rw [hS_sI, e2, hs.1, hs.2.1, hs.2.2]
  rfl
theorem hS_end {l : List Int} (h : hdrE l = 0) {j : Nat} (hj : j + 1 = l.length) : stepAns (hS l j) (l.getD j 0) = .tuple #[.int .i64 0, .string ⟨#[]⟩, .int .i64 14] := by
  obtain ⟨h1, h2, h3, h4⟩ := hdrE_ok h
  have he : sI (hS l j) = [] := by rw [hS_sI, List.drop_of_length_le (by omega)]; rfl
  have hE := step_end (h1 _ (getD_mem (l := l) (i := j) (by omega)))
  unfold stepAns stepN stepL
  rw [he, hE]
  rfl
theorem hS_nil {l : List Int} {j : Nat} (hj : j + 1 = l.length) : hS l j = ⟨#[]⟩ := by
  unfold hS
  rw [List.drop_of_length_le (by omega)]
  rfl
set_option maxHeartbeats 6400000 in
theorem downwardLeads_any (A : Option Addr) (c : Nat) (l : List Int) (w : World) (hs : SlAt intc 1 w A c l) :
    Calls Try.prog 13 #[.slice A l.length c] w fun e w' => e = .returned (.bool true) ∧ Below w.heap.size w w' := by
  have HS := Lib.hid hs
  have HA := Lib.hid (awake24_any w)
  have hb := hs.row.1
  have hlc := hs.le
  have hcc := hs.cap
  clear hs
  have HH := Lib.hid (fun W (h : Below w.heap.size w W) => header_any A c l W (HS.out.below h))
  obtain ⟨v, hv⟩ : ∃ v, hdrV l = v := ⟨_, rfl⟩
  obtain ⟨E, hE⟩ : ∃ E, hdrE l = E := ⟨_, rfl⟩
  rw [hv, hE] at HH
  by_cases h40 : 40 < l.length
  · have b1 : decide ((40 : Int) < l.length) = true := by simp; omega
    have b1' : decide (40 < l.length) = true := by simp; omega
    clear hv hE
    go_enter Try.func13, Try.ntmps13
    set_option maxRecDepth 100000 in go_wp2_with (first | (go_at_call 44; refine HA.out.mono ?_; rintro e w1 ⟨rfl, hb1⟩; (have HB1 := Lib.hid hb1); clear hb1) | (go_at_call 50; refine (HH.out _ HB1.out).mono ?_; rintro e w2 ⟨rfl, hb2⟩; (have HB2 := Lib.hid (HB1.out.trans (hb2.mono HB1.out.size))); clear hb2))
    go_ret
    exact ⟨rfl, HB2.out⟩
  have b1 : decide ((40 : Int) < l.length) = false := by simp; omega
  have b1' : decide (40 < l.length) = false := by simp; omega
  by_cases h0 : E = 0
  case neg =>
    have b2 : (E != 0) = true := by simp [h0]
    have hv0 : v = ⟨#[]⟩ := by rw [← hv]; exact hdrV_no (by rw [hE]; exact h0)
    subst hv0
    clear hv hE h0
    go_enter Try.func13, Try.ntmps13
    set_option maxRecDepth 100000 in go_wp2_with (first | (go_at_call 44; refine HA.out.mono ?_; rintro e w1 ⟨rfl, hb1⟩; (have HB1 := Lib.hid hb1); clear hb1) | (go_at_call 50; refine (HH.out _ HB1.out).mono ?_; rintro e w2 ⟨rfl, hb2⟩; (have HB2 := Lib.hid (HB1.out.trans (hb2.mono HB1.out.size))); clear hb2))
    go_ret
    exact ⟨rfl, HB2.out⟩
  subst h0
  have HE := Lib.hid hE
  obtain ⟨h1, h2, h3, h4⟩ := hdrE_ok hE
  have b2 : ((0 : Int) != 0) = false := rfl
  have hv0 : v = hS l 0 := by rw [← hv]; exact hS_zero hE
  have hsz : (v.size : Int) = (l.length : Int) - 1 := by rw [hv0, hS_size]; omega
  have b3 : ((l.length : Int) == 0) = false := beq_eq_false_iff_ne.2 (by omega)
  have b3' : (l.length == 0) = false := beq_eq_false_iff_ne.2 (by omega)
  have b4 : decide ((9 : Int) < l.length) = false := by simp; omega
  have b4' : decide (9 < l.length) = false := by simp; omega
  have b5 : ((v.size : Int) != (l.length : Int) - 1) = false := by rw [hsz]; simp
  have HV0 := Lib.hid hv0
  have hl1 : 1 ≤ l.length := h3
  have hl9 : l.length ≤ 9 := h4
  have hc1 : 1 ≤ c := by omega
  have i0 : (0 : Int) < l.length := by omega
  have i1 : (1 : Int) ≤ l.length := by omega
  have i2 : (1 : Int) ≤ c := by omega
  obtain ⟨x0, hx0⟩ : ∃ x0, l.getD 0 0 = x0 := ⟨_, rfl⟩
  have HX0 := Lib.hid hx0
  clear hv hE h1 h2 h3 h4 hv0 hsz hx0
  by_cases hc : c = 1
  · have hl : l.length = 1 := by omega
    subst hc
    have HL := Lib.hid hl
    have b6 : decide ((0 : Int) < (l.length : Int) - 1) = false := by simp; omega
    clear hl
    set_option maxRecDepth 100000 in go_enter Try.func13, Try.ntmps13
    set_option maxRecDepth 100000 in go_wp2_with (first | (go_at_call 44; refine HA.out.mono ?_; rintro e w1 ⟨rfl, hb1⟩; (have HB1 := Lib.hid hb1); clear hb1) | (go_at_call 50; refine (HH.out _ HB1.out).mono ?_; rintro e w2 ⟨rfl, hb2⟩; (have HB2 := Lib.hid (HB1.out.trans (hb2.mono HB1.out.size))); obtain ⟨ad, rfl, c0⟩ := (HS.out.below HB2.out).row.int 0 hl1; rw [show ad.add 0 = ad from by simp [Addr.add], HX0.out] at c0; clear hb2))
    go_loopw [57, 5, 3] (fun u a5 a3 wr => u = .int .i64 0 ∧ a5 = .int .i64 x0 ∧ a3 = .string v ∧ Hid (Below w.heap.size w wr)) (fun u _ _ _ => (0 - (intOf u)).toNat)
    case atStart => exact ⟨rfl, rfl, rfl, HB2⟩
    case round =>
      obtain ⟨rfl, rfl, rfl, HB⟩ := hrel
      have hj := HL.out
      have HSE := Lib.hid (show stepAns v x0 = .tuple #[.int .i64 0, .string ⟨#[]⟩, .int .i64 14] by rw [HV0.out, ← HX0.out]; exact hS_end HE.out (by omega))
      have HSN := Lib.hid (show v = ⟨#[]⟩ by rw [HV0.out]; exact hS_nil (by omega))
      have HSZ := Lib.hid (show v.size ≤ 17592186044416 by rw [HV0.out, hS_size]; omega)
      have HT := Lib.hid (step_any v x0 wr HSZ.out)
      rw [HSE.out] at HT
      obtain rfl := HSN.out
      set_option maxRecDepth 100000 in go_wp2_with (go_at_call 52; refine HT.out.mono ?_; rintro e w4 ⟨rfl, hb4⟩; (have HB4 := Lib.hid (HB.out.trans (hb4.mono HB.out.size))); clear hb4)
      go_ret
      exact ⟨rfl, HB4.out⟩

  · have hc2 : ¬ c = 1 := hc
    set_option maxRecDepth 100000 in go_enter Try.func13, Try.ntmps13
    set_option maxRecDepth 100000 in go_wp2_with (first | (go_at_call 44; refine HA.out.mono ?_; rintro e w1 ⟨rfl, hb1⟩; (have HB1 := Lib.hid hb1); clear hb1) | (go_at_call 50; refine (HH.out _ HB1.out).mono ?_; rintro e w2 ⟨rfl, hb2⟩; (have HB2 := Lib.hid (HB1.out.trans (hb2.mono HB1.out.size))); obtain ⟨ad, rfl, c0⟩ := (HS.out.below HB2.out).row.int 0 hl1; rw [show ad.add 0 = ad from by simp [Addr.add], HX0.out] at c0; clear hb2))
    go_loopw [57, 5, 3] (fun u a5 a3 wr => ∃ (j : Nat) (x : Int) (S0 : ByteArray), u = .int .i64 j ∧ a5 = .int .i64 x ∧ a3 = .string S0 ∧ j + 1 ≤ l.length ∧ Hid (l.getD j 0 = x) ∧ Hid (S0 = hS l j) ∧ Hid (Below w.heap.size w wr)) (fun u _ _ _ => (l.length - (intOf u)).toNat)
    case atStart => exact ⟨0, x0, v, rfl, rfl, rfl, by omega, HX0, HV0, HB2⟩
    case round =>
      obtain ⟨j, x, S0, rfl, rfl, rfl, hj, HX, HS0, HB⟩ := hrel
      by_cases hlt : j + 1 < l.length
      · obtain ⟨ad', e', c1⟩ := (HS.out.below HB.out).row.int (j + 1) hlt
        cases e'
        obtain ⟨y, hy⟩ : ∃ y, l.getD (j + 1) 0 = y := ⟨_, rfl⟩
        rw [hy] at c1
        rw [show ad.add (j + 1) = ⟨ad.block, ad.off + 1 + j, none⟩ from by unfold Addr.add; rw [if_neg (by omega), show ad.off + (j + 1) = ad.off + 1 + j from by omega]] at c1
        obtain ⟨S1, hS1⟩ : ∃ S1, hS l (j + 1) = S1 := ⟨_, rfl⟩
        have HSE := Lib.hid (show stepAns S0 x = .tuple #[.int .i64 y, .string S1, .int .i64 0] by rw [HS0.out, ← HX.out, ← hy, ← hS1]; exact hS_step HE.out hlt)
        have hz0 : S0.size = l.length - (j + 1) := by rw [HS0.out, hS_size]
        have hz1 : S1.size = l.length - (j + 1 + 1) := by rw [← hS1, hS_size]
        have HT := Lib.hid (step_any S0 x wr (by omega))
        rw [HSE.out] at HT
        have b7 : ((S1.size : Int) != (S0.size : Int) - 1) = false := by rw [show (S0.size : Int) - 1 = S1.size by omega]; simp
        have b8 : decide ((j : Int) < (l.length : Int) - 1) = true := by simp; omega
        have b9 : (y != y) = false := by simp
        have i3 : (1 : Int) ≤ S0.size := by omega
        have i4 : S0.size ≤ 9 := by omega
        have g1 : (0 : Int) ≤ j := by omega
        have g2 : (j : Int) < (l.length : Int) - 1 := by omega
        have HX1 := Lib.hid hy
        have HS1 := Lib.hid hS1.symm
        clear hz0 hz1 hy hS1 c0
        set_option maxRecDepth 100000 in go_wp2_with (go_at_call 52; refine HT.out.mono ?_; rintro e w4 ⟨rfl, hb4⟩; (have HB4 := Lib.hid (HB.out.trans (hb4.mono HB.out.size))); clear hb4)
        go_roundw
        case rel => exact ⟨j + 1, y, S1, by simp, rfl, rfl, by omega, HX1, HS1, HB4⟩
        case measure => simp [intOf]; omega
      · have b8 : decide ((j : Int) < (l.length : Int) - 1) = false := by simp; omega
        have HSE := Lib.hid (show stepAns S0 x = .tuple #[.int .i64 0, .string ⟨#[]⟩, .int .i64 14] by rw [HS0.out, ← HX.out]; exact hS_end HE.out (by omega))
        have HSN := Lib.hid (show S0 = ⟨#[]⟩ by rw [HS0.out]; exact hS_nil (by omega))
        have HSZ := Lib.hid (show S0.size ≤ 17592186044416 by rw [HS0.out, hS_size]; omega)
        have HT := Lib.hid (step_any S0 x wr HSZ.out)
        rw [HSE.out] at HT
        obtain rfl := HSN.out
        set_option maxRecDepth 100000 in go_wp2_with (go_at_call 52; refine HT.out.mono ?_; rintro e w4 ⟨rfl, hb4⟩; (have HB4 := Lib.hid (HB.out.trans (hb4.mono HB.out.size))); clear hb4)
        go_ret
        exact ⟨rfl, HB4.out⟩
end Go.Proofs.Ytckanomabhbkaaa
