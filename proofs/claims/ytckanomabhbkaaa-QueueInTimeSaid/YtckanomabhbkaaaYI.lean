/- slices.IndexFunc over departures, slices.Contains over numbers, steady: walked. -/
import Derived.Test.YtckanomabhbkaaaPT
import Derived.Test.YtckanomabhbkaaaQE
import Derived.Deep.Slices
namespace Go.Proofs.Ytckanomabhbkaaa
open Go.RowKit Go.Shelf
set_option linter.unusedVariables false
def dix (D : List Dp) (k : Int) : Int := match D.findIdx? (fun d => d.id == k) with | some n => (n : Int) | none => -1
theorem gd_elem {l : List Dp} {n : Nat} (h : n < l.length) : gd l (n : Int) = l[n] := by
  simp [gd, List.getD_eq_getElem?_getD, List.getElem?_eq_getElem h]
theorem dix_hit {D : List Dp} {k : Int} {i : Nat} (h1 : i < D.length) (he : (gd D i).id = k) (hn : ∀ j : Nat, j < i → (gd D j).id ≠ k) : dix D k = i := by
  unfold dix
  have hk : D.findIdx? (fun d => d.id == k) = some i := by
    rw [List.findIdx?_eq_some_iff_getElem]
    refine ⟨h1, by rw [← gd_elem h1]; simp [he], fun j hj => ?_⟩
    have := hn j hj
    rw [gd_elem (by omega)] at this
    simp [this]
  rw [hk]
theorem dix_miss {D : List Dp} {k : Int} (hn : ∀ j : Nat, j < D.length → (gd D j).id ≠ k) : dix D k = -1 := by
  unfold dix
  have hk : D.findIdx? (fun d => d.id == k) = none := by
    rw [List.findIdx?_eq_none_iff]
    intro x hx
    obtain ⟨j, hj, rfl⟩ := List.getElem_of_mem hx
    have := hn j hj
    rw [gd_elem hj] at this
    simp [this]
  rw [hk]
/-- Either there is no departure with an ID, or it stands at a place. -/
theorem dix_cases (D : List Dp) (k : Int) : (dix D k = -1 ∧ k ∉ idsD D) ∨ ∃ n : Nat, dix D k = n ∧ n < D.length ∧ (gd D n).id = k := by
  unfold dix
  cases hk : D.findIdx? (fun d => d.id == k) with
  | none =>
    left
    rw [List.findIdx?_eq_none_iff] at hk
    refine ⟨rfl, fun h => ?_⟩
    obtain ⟨d, hd, he⟩ := mem_idsD.1 h
    have := hk d hd
    simp [he] at this
  | some n =>
    right
    rw [List.findIdx?_eq_some_iff_getElem] at hk
    obtain ⟨hl, hp, _⟩ := hk
    exact ⟨n, rfl, hl, by rw [gd_elem hl]; simpa using hp⟩
set_option maxHeartbeats 800000 in
theorem dpred_any (P : Nat) (k : Int) (x : Dp) (W : World) (hc : W.cell? ⟨P, 0, none⟩ = some (.int .i64 k)) :
    Calls Try.prog 36 #[.agg #[.int .i64 x.id, .int .i64 x.slot, .bool x.dropped], .pointer (some ⟨P, 0, none⟩)] W fun e w' => e = .returned (.bool (x.id == k)) ∧ Below W.heap.size W w' := by
  have hl := cell_lt hc
  have hne : ¬ P = W.heap.size := by simp at hl; omega
  go_enter Try.func36, Try.ntmps36
  go_wp2
  go_ret
  exact ⟨rfl, (Below.refl _ _).alloc (Nat.le_refl _) _⟩
set_option maxHeartbeats 1600000 in
theorem indexD_any (P : Nat) (k : Int) (A : Option Addr) (c : Nat) (D : List Dp) (w : World) (hr : RowAt Dp.cells 3 w A D) (hc : w.cell? ⟨P, 0, none⟩ = some (.int .i64 k)) :
    Calls Try.prog 35 #[.slice A D.length c, .func (.func 36) #[] #[.pointer (some ⟨P, 0, none⟩)]] w fun e w' => e = .returned (.int .i64 (dix D k)) ∧ Below w.heap.size w w' := by
  have HR := Lib.hid hr
  have hb := hr.1
  have HC := Lib.hid hc
  clear hr hc
  go_enter Try.func35, Try.ntmps35
  go_wp2
  go_loopw [8] (fun v wr => ∃ i : Nat, v = .int .i64 i ∧ i ≤ D.length ∧ Hid (∀ j : Nat, j < i → (gd D j).id ≠ k) ∧ Hid (Below w.heap.size w wr)) (fun v _ => (D.length - (intOf v)).toNat)
  case atStart => exact ⟨0, rfl, by omega, fun j h => by omega, Below.refl _ _⟩
  case round =>
    obtain ⟨i, rfl, hil, HN, HB⟩ := hrel
    by_cases hlt : i < D.length
    · obtain ⟨ad, rfl, c0, c1, c2⟩ := (HR.out.below HB.out).dp i (by omega) (by omega)
      rw [Int.toNat_natCast] at c0 c1 c2
      have hli : decide ((i : Int) < D.length) = true := by simp; omega
      have g1 : (0 : Int) ≤ i := by omega
      have g2 : (i : Int) < D.length := by omega
      have HPC := Lib.hid (cell_below HB.out HC.out)
      by_cases he : (gd D i).id = k
      · have b : ((gd D i).id == k) = true := by simp [he]
        have HF := Lib.hid (dix_hit hlt he HN.out)
        clear he
        go_wp2_with (go_at_call 36; refine (dpred_any P k (gd D i) _ HPC.out).mono ?_; rintro e w1 ⟨rfl, hb1⟩; rw [b]; (have HB1 := Lib.hid (HB.out.trans (hb1.mono HB.out.size))); clear hb1)
        go_ret
        exact ⟨ret_int HF.out.symm, HB1.out⟩
      · have b : ((gd D i).id == k) = false := by simp [he]
        have HN2 := Lib.hid (show ∀ j : Nat, j < i + 1 → (gd D j).id ≠ k from fun j hj => by
          by_cases e : j = i
          · subst e; exact he
          · exact HN.out j (by omega))
        clear he
        go_wp2_with (go_at_call 36; refine (dpred_any P k (gd D i) _ HPC.out).mono ?_; rintro e w1 ⟨rfl, hb1⟩; rw [b]; (have HB1 := Lib.hid (HB.out.trans (hb1.mono HB.out.size))); clear hb1)
        go_roundw
        case rel => exact ⟨i + 1, by simp, by omega, HN2, HB1⟩
        case measure => simp [intOf]; omega
    · have hli : decide ((i : Int) < D.length) = false := by simp; omega
      obtain rfl : i = D.length := by omega
      go_wp2
      go_ret
      exact ⟨ret_int (dix_miss HN.out).symm, HB.out⟩
def iix (l : List Int) (k : Int) : Int := match l.findIdx? (fun d => k == d) with | some n => (n : Int) | none => -1
set_option maxHeartbeats 800000 in
theorem indexI_any (A : Option Addr) (c : Nat) (l : List Int) (k : Int) (w : World) (hr : RowAt intc 1 w A l) :
    Calls Try.prog 102 #[.slice A l.length c, .int .i64 k] w fun e w' => e = .returned (.int .i64 (iix l k)) ∧ w = w' := by
  have HR := Lib.hid hr
  have hb := hr.1
  clear hr
  go_enter Try.func102, Try.ntmps102
  go_wp2
  go_loop [8] (fun v => ∃ i : Nat, v = .int .i64 i ∧ i ≤ l.length ∧ Hid (∀ j : Nat, j < i → k ≠ l.getD j 0)) (fun v => (l.length - (intOf v)).toNat)
  case atStart => exact ⟨0, rfl, by omega, fun j h => by omega⟩
  case round =>
    obtain ⟨i, rfl, hil, HN⟩ := hrel
    by_cases hlt : i < l.length
    · obtain ⟨ad, rfl, c0⟩ := HR.out.int i hlt
      have hli : decide ((i : Int) < l.length) = true := by simp; omega
      have g1 : (0 : Int) ≤ i := by omega
      have g2 : (i : Int) < l.length := by omega
      obtain ⟨y, hy⟩ : ∃ y, l.getD i 0 = y := ⟨_, rfl⟩
      have HY := Lib.hid hy
      rw [hy] at c0
      clear hy
      by_cases he : k = y
      · have b : (k == y) = true := by simp [he]
        have HF := Lib.hid (show iix l k = i by
          unfold iix
          have hk : l.findIdx? (fun d => k == d) = some i := by
            rw [List.findIdx?_eq_some_iff_getElem]
            have hg : ∀ n, (hn : n < l.length) → l.getD n 0 = l[n] := fun n hn => by rw [List.getD_eq_getElem?_getD, List.getElem?_eq_getElem hn]; rfl
            refine ⟨hlt, by rw [← hg i hlt, HY.out]; simp [he], fun j hj => ?_⟩
            have := HN.out j hj
            rw [hg j (by omega)] at this
            simp [this]
          rw [hk])
        clear he
        go_wp2
        go_ret
        exact ⟨ret_int HF.out.symm, rfl⟩
      · have b : (k == y) = false := by simp [he]
        have HN2 := Lib.hid (show ∀ j : Nat, j < i + 1 → k ≠ l.getD j 0 from fun j hj => by
          by_cases e : j = i
          · subst e; rw [HY.out]; exact he
          · exact HN.out j (by omega))
        clear he
        go_wp2
        go_round
        case rel => exact ⟨i + 1, by simp, by omega, HN2⟩
        case measure => simp [intOf]; omega
    · have hli : decide ((i : Int) < l.length) = false := by simp; omega
      obtain rfl : i = l.length := by omega
      have HF := Lib.hid (show iix l k = -1 by
        unfold iix
        have hk : l.findIdx? (fun d => k == d) = none := by
          rw [List.findIdx?_eq_none_iff]
          intro x hx
          obtain ⟨j, hj, rfl⟩ := List.getElem_of_mem hx
          have := HN.out j hj
          rw [List.getD_eq_getElem?_getD, List.getElem?_eq_getElem hj] at this
          simpa using this
        rw [hk])
      go_wp2
      go_ret
      exact ⟨ret_int HF.out.symm, rfl⟩
def hasI (l : List Int) (k : Int) : Bool := decide (0 ≤ iix l k)
theorem hasI_iff {l : List Int} {k : Int} : hasI l k = true ↔ k ∈ l := by
  unfold hasI iix
  rw [decide_eq_true_eq]
  cases hk : l.findIdx? (fun d => k == d) with
  | none =>
    rw [List.findIdx?_eq_none_iff] at hk
    constructor
    · intro h; simp at h
    · intro h
      have := hk k h
      simp at this
  | some n =>
    rw [List.findIdx?_eq_some_iff_getElem] at hk
    obtain ⟨hl, hp, _⟩ := hk
    constructor
    · intro _
      have e : k = l[n] := by simpa using hp
      rw [e]
      exact List.getElem_mem _
    · intro _
      show (0 : Int) ≤ (n : Int)
      omega
theorem containsI_any (A : Option Addr) (c : Nat) (l : List Int) (k : Int) (w : World) (hr : RowAt intc 1 w A l) :
    Calls Try.prog 63 #[.slice A l.length c, .int .i64 k] w fun e w' => e = .returned (.bool (hasI l k)) ∧ w = w' := by
  have HC := Lib.hid (indexI_any A c l k w hr)
  clear hr
  go_enter Try.func63, Try.ntmps63
  go_wp2_with fail
  refine HC.out.mono ?_
  rintro e w1 ⟨rfl, rfl⟩
  go_wp2
  go_ret
  exact ⟨rfl, rfl⟩
theorem row_sub {w : World} {ad : Addr} {l : List Int} (h : RowAt intc 1 w (some ad) l) (i e : Nat) : RowAt intc 1 w (some (ad.add i)) ((l.drop i).take e) := by
  refine ⟨by rw [List.length_take, List.length_drop]; have := h.1; omega, fun hn => ⟨_, rfl, fun k x hx j v hv => ?_⟩⟩
  rw [List.length_take, List.length_drop] at hn
  obtain ⟨ad', e', hc⟩ := h.2 (by omega)
  cases e'
  rw [List.getElem?_take] at hx
  by_cases hk : k < e
  · rw [if_pos hk, List.getElem?_drop] at hx
    have := hc (i + k) x hx j v hv
    rw [Go.Deep.add_add, show i + (k * 1 + j) = (i + k) * 1 + j from by omega]
    exact this
  · rw [if_neg hk] at hx; cases hx
def steadyB (l : List Int) (d : Int) (e : Nat) : Bool := (List.range (l.length + 1)).all fun i => !decide (i + e ≤ l.length) || hasI ((l.drop i).take e) d
theorem steadyB_yes {l : List Int} {d : Int} {e : Nat} (h : ∀ i : Nat, i + e ≤ l.length → hasI ((l.drop i).take e) d = true) : steadyB l d e = true := by
  unfold steadyB
  rw [List.all_eq_true]
  intro i hi
  by_cases hle : i + e ≤ l.length
  · rw [h i hle]; simp
  · simp [hle]
theorem steadyB_no {l : List Int} {d : Int} {e i : Nat} (h : i + e ≤ l.length) (hn : hasI ((l.drop i).take e) d = false) : steadyB l d e = false := by
  rw [← Bool.not_eq_true]
  unfold steadyB
  rw [List.all_eq_true]
  intro H
  have := H i (List.mem_range.2 (by omega))
  simp [h, hn] at this
theorem steadyB_steady {l : List Int} {d : Int} {e : Nat} (h : steadyB l d e = true) : Steady l d e := by
  intro i hi
  unfold steadyB at h
  rw [List.all_eq_true] at h
  have := h i (List.mem_range.2 (by omega))
  simp [hi] at this
  exact hasI_iff.1 this
set_option maxHeartbeats 1600000 in
theorem steady_any (A : Option Addr) (c : Nat) (l : List Int) (d : Int) (e : Nat) (w : World) (hr : RowAt intc 1 w A l) (hlc : l.length ≤ c) (hc : c ≤ 9223372036854775807) (he : 1 ≤ e) (he2 : e ≤ 255) (hl : l.length ≤ 100) :
    Calls Try.prog 37 #[.slice A l.length c, .int .i64 d, .int .i64 e] w fun r w' => r = .returned (.bool (steadyB l d e)) ∧ w = w' := by
  have HR := Lib.hid hr
  have hb := hr.1
  clear hr
  go_enter Try.func37, Try.ntmps37
  go_wp2
  go_loop [7] (fun v => ∃ i : Nat, v = .int .i64 i ∧ i ≤ l.length + 1 ∧ Hid (∀ j : Nat, j < i → j + e ≤ l.length → hasI ((l.drop j).take e) d = true)) (fun v => (l.length + 1 - (intOf v)).toNat)
  case atStart => exact ⟨0, rfl, by omega, fun j h => by omega⟩
  case round =>
    obtain ⟨i, rfl, hil, HN⟩ := hrel
    by_cases hlt : i + e ≤ l.length
    · have hli : decide ((i : Int) + e ≤ l.length) = true := by simp; omega
      have hA : ∃ ad, A = some ad := by
        obtain ⟨ad, h, _⟩ := HR.out.2 (by omega)
        exact ⟨ad, h⟩
      obtain ⟨ad, rfl⟩ := hA
      have hck : ¬ c = i := by omega
      have g1 : (i : Int) ≤ (i : Int) + e := by omega
      have g2 : (i : Int) + e ≤ c := by omega
      have g3 : ((i : Int) + e).toNat = i + e := by omega
      have g4 : i + e - i = e := by omega
      obtain ⟨T, hT⟩ : ∃ T, (l.drop i).take e = T := ⟨_, rfl⟩
      have HT := Lib.hid hT
      have HTL := Lib.hid (show T.length = e by rw [← hT, List.length_take, List.length_drop]; omega)
      have HRT := Lib.hid (show RowAt intc 1 w (some (ad.add i)) T by rw [← hT]; exact row_sub HR.out i e)
      clear hT
      obtain ⟨b, hbb⟩ : ∃ b, hasI T d = b := ⟨_, rfl⟩
      have HBB := Lib.hid hbb
      have HCC := Lib.hid (containsI_any (some (ad.add i)) (c - i) T d w HRT.out)
      rw [HTL.out, hbb] at HCC
      clear hbb
      cases b
      · go_wp2_with fail
        refine HCC.out.mono ?_
        rintro r w1 ⟨rfl, rfl⟩
        go_wp2
        go_ret
        exact ⟨ret_bool (steadyB_no hlt (by rw [HT.out]; exact HBB.out)).symm, rfl⟩
      · go_wp2_with fail
        refine HCC.out.mono ?_
        rintro r w1 ⟨rfl, rfl⟩
        go_wp2
        go_round
        case rel => exact ⟨i + 1, by simp, by omega, fun j hj hje => by
          by_cases ej : j = i
          · subst ej; rw [HT.out]; exact HBB.out
          · exact HN.out j (by omega) hje⟩
        case measure => simp [intOf]; omega
    · have hli : decide ((i : Int) + e ≤ l.length) = false := by simp; omega
      have HF := Lib.hid (steadyB_yes (l := l) (d := d) (e := e) fun j hj => HN.out j (by omega) hj)
      go_wp2
      go_ret
      exact ⟨ret_bool HF.out.symm, rfl⟩
end Go.Proofs.Ytckanomabhbkaaa
