/- Header of the program, walked. -/
import Derived.Test.YtckanomabhbkaaaDV
namespace Go.Proofs.Ytckanomabhbkaaa
open Go.RowKit Go.Shelf
set_option linter.unusedVariables false
theorem flat_one {α : Type} (v : α → Value) (m : List α) : m.flatMap (fun x => [v x]) = m.map v := by
  induction m with
  | nil => rfl
  | cons x m ih => rw [List.flatMap_cons, ih]; rfl
/-- A store into a row whose elements have one cell. -/
theorem own_store1 {α : Type} {v : α → Value} {w : World} {base g c N : Nat} {e : TypeId} {m : List α} (hN : N = m.length) (h : Own (fun x => [v x]) 1 w base e (.slice (some ⟨g, 0, none⟩) N c) m) (i : Nat) (x : α) :
    Own (fun x => [v x]) 1 (w.setCell ⟨g, i, none⟩ (v x)) base e (.slice (some ⟨g, 0, none⟩) N c) (m.set i x) ∧ w.grownBy (w.setCell ⟨g, i, none⟩ (v x)) (some g) := by
  subst hN
  have h1 := World.ownsRow.stored h i (v x)
  refine ⟨?_, h1.2⟩
  unfold Own
  rw [List.length_set, flat_one, List.map_set, ← flat_one]
  exact h1.1
theorem own_free1 {α : Type} {enc : α → List Value} {k : Nat} {w : World} {base g c N : Nat} {e : TypeId} {m : List α} (h : Own enc k w base e (.slice (some ⟨g, 0, none⟩) N c) m) (i : Nat) : w.frozen? ⟨g, i, none⟩ = false ∧ base ≤ g := by
  rcases h.2 with ⟨he, _⟩ | ⟨g', cap, cur, he, hb, hg, _⟩
  · cases he
  · cases he
    exact ⟨blk_free hg i, hb⟩
theorem own_cell1 {α : Type} {v : α → Value} {w : World} {base g c : Nat} {e : TypeId} {m : List α} (h : Own (fun x => [v x]) 1 w base e (.slice (some ⟨g, 0, none⟩) m.length c) m) (i : Nat) (x : α) (hx : m[i]? = some x) : w.cell? ⟨g, i, none⟩ = some (v x) := by
  have h2 := World.ownsRow.cells h rfl i (v x) (by rw [flat_one, List.getElem?_map, hx]; rfl)
  have hadd : ∀ j, (⟨g, 0, none⟩ : Addr).add j = ⟨g, j, none⟩ := fun j => by unfold Addr.add; split <;> simp_all
  rwa [hadd] at h2
def byv (b : UInt8) : Value := .int .u8 (b.toNat : Int)
theorem byc_eq : byc = fun x => [byv x] := rfl
theorem made0_bytes {w : World} {base : Nat} {v : Value} {n : Nat} (h : w.ownsRow base 5 1 v n (madeCells (Value.int .u8 0).cells (n * 1)).toList) : Own byc 1 w base 5 v (List.replicate n 0) := by
  unfold Own
  rw [byc_eq, flat_one, List.length_replicate, List.map_replicate]
  have : (madeCells (Value.int .u8 0).cells (n * 1)).toList = List.replicate n (byv 0) := by
    rw [Nat.mul_one]; exact toList_madeCells_one _ n
  rw [← this]; exact h
/-- The first of them are those of the list. -/
theorem fill_next {L : List UInt8} {j : Nat} {N : Nat} (hL : L.length = N) (h : j < N) : (L.take j ++ List.replicate (N - j) 0).set j (L.getD j 0) = L.take (j + 1) ++ List.replicate (N - (j + 1)) 0 := by
  have hj : (L.take j).length = j := by rw [List.length_take]; omega
  rw [List.set_append, if_neg (by omega), hj, Nat.sub_self, show N - j = (N - (j + 1)) + 1 from by omega, List.replicate_succ, List.set_cons_zero, List.take_succ_eq_append_getElem (by omega), List.getD_eq_getElem?_getD, List.getElem?_eq_getElem (by omega), List.append_assoc]
  rfl
set_option maxHeartbeats 3200000 in
theorem header_any (A : Option Addr) (c : Nat) (l : List Int) (w : World) (hs : SlAt intc 1 w A c l) :
    Calls Try.prog 50 #[.slice A l.length c] w fun e w' => e = .returned (.tuple #[.string (hdrV l), .int .i64 (hdrE l)]) ∧ Below w.heap.size w w' := by
  have hr := hs.row
  have hlc := hs.le
  have hcc := hs.cap
  have hb := hr.1
  have HR := Lib.hid hr
  have HC := Lib.hid (containsOut_any A c l w hr)
  obtain ⟨ob, hob⟩ : ∃ ob, outB l = ob := ⟨_, rfl⟩
  rw [hob] at HC
  have HO := Lib.hid hob
  clear hr hs
  cases ob
  case true =>
    have HE := Lib.hid (show hdrE l = 2 by unfold hdrE; rw [hob, if_pos rfl])
    clear hob
    go_enter Try.func50, Try.ntmps50
    go_wp2_with (go_at_call 92; refine HC.out.mono ?_; rintro e w' ⟨rfl, rfl⟩)
    go_ret2
    exact ⟨ret_hdr HE.out (by decide), Below.refl _ _⟩
  have HT := Lib.hid (twice_any A c l w HR.out (outB_no.1 hob))
  obtain ⟨db, hdb⟩ : ∃ db, dupB l = db := ⟨_, rfl⟩
  rw [hdb] at HT
  cases db
  case true =>
    have HE := Lib.hid (show hdrE l = 6 by unfold hdrE; rw [hob, hdb, if_neg (by simp), if_pos rfl])
    clear hob hdb
    go_enter Try.func50, Try.ntmps50
    set_option maxRecDepth 100000 in go_wp2_with (first | (go_at_call 92; refine HC.out.mono ?_; rintro e w' ⟨rfl, rfl⟩) | (go_at_call 95; refine HT.out.mono ?_; rintro e w1 ⟨rfl, hb1⟩; (have HB := Lib.hid hb1); clear hb1))
    go_ret2
    exact ⟨ret_hdr HE.out (by decide), HB.out⟩
  by_cases h0 : l.length = 0
  · have HE := Lib.hid (show hdrE l = 9 by unfold hdrE; rw [hob, hdb, if_neg (by simp), if_neg (by simp), if_pos (List.eq_nil_of_length_eq_zero h0)])
    have b0 : ((l.length : Int) == 0) = true := beq_iff_eq.2 (by omega)
    have b0' : (l.length == 0) = true := beq_iff_eq.2 h0
    clear h0 hob hdb
    go_enter Try.func50, Try.ntmps50
    set_option maxRecDepth 100000 in go_wp2_with (first | (go_at_call 92; refine HC.out.mono ?_; rintro e w' ⟨rfl, rfl⟩) | (go_at_call 95; refine HT.out.mono ?_; rintro e w1 ⟨rfl, hb1⟩; (have HB := Lib.hid hb1); clear hb1))
    go_ret2
    exact ⟨ret_hdr HE.out (by decide), HB.out⟩
  have b0 : ((l.length : Int) == 0) = false := beq_eq_false_iff_ne.2 (by omega)
  have b0' : (l.length == 0) = false := beq_eq_false_iff_ne.2 h0
  by_cases h9 : 9 < l.length
  · have HE := Lib.hid (show hdrE l = 8 by unfold hdrE; rw [hob, hdb, if_neg (by simp), if_neg (by simp), if_neg (by intro e; rw [e] at h0; simp at h0), if_pos h9])
    have b9 : decide ((9 : Int) < l.length) = true := by simp; omega
    have b9' : decide (9 < l.length) = true := by simp; omega
    clear hob hdb
    go_enter Try.func50, Try.ntmps50
    set_option maxRecDepth 100000 in go_wp2_with (first | (go_at_call 92; refine HC.out.mono ?_; rintro e w' ⟨rfl, rfl⟩) | (go_at_call 95; refine HT.out.mono ?_; rintro e w1 ⟨rfl, hb1⟩; (have HB := Lib.hid hb1); clear hb1))
    go_ret2
    exact ⟨ret_hdr HE.out (by decide), HB.out⟩
  have HE := Lib.hid (show hdrE l = 0 by unfold hdrE; rw [hob, hdb, if_neg (by simp), if_neg (by simp), if_neg (by intro e; rw [e] at h0; simp at h0), if_neg h9])
  have b9 : decide ((9 : Int) < l.length) = false := by simp; omega
  have b9' : decide (9 < l.length) = false := by simp; omega
  obtain ⟨ad, rfl, _⟩ := HR.out.int 0 (by omega)
  have HIN := Lib.hid (outB_no.1 hob)
  obtain ⟨L, hL⟩ : ∃ L, l.tail.map byteI = L := ⟨_, rfl⟩
  have hLl : L.length = l.length - 1 := by rw [← hL]; simp
  have HV := Lib.hid (show hdrV l = ⟨L.toArray⟩ by rw [hdrV_yes HE.out, hL])
  have HLG := Lib.hid (show ∀ j : Nat, j + 1 < l.length → (L.getD j 0).toNat = l.getD (j + 1) 0 ∧ 0 ≤ l.getD (j + 1) 0 ∧ l.getD (j + 1) 0 < 32 from fun j hj => by
    have h := HIN.out _ (getD_mem hj)
    refine ⟨?_, h.1, h.2⟩
    rw [← byteI_nat h.1 h.2]
    congr 2
    rw [← hL, List.getD_eq_getElem?_getD, List.getElem?_map, List.getElem?_tail, List.getD_eq_getElem?_getD, List.getElem?_eq_getElem hj]
    rfl)
  obtain ⟨N, hN⟩ : ∃ N, l.length = N + 1 := ⟨l.length - 1, by omega⟩
  have HLL := Lib.hid (show L.length = N by omega)
  have HNL := Lib.hid hN
  have hN8 : N ≤ 8 := by omega
  have hNc : N + 1 ≤ c := by omega
  obtain ⟨i0, hi, hz0, hz1, hz2⟩ := info_parts info5
  have c0 : ((N : Int) + 1 == 0) = false := beq_eq_false_iff_ne.2 (by omega)
  have c9 : decide ((9 : Int) < (N : Int) + 1) = false := by simp; omega
  rw [hN] at HC HT b0 b0' b9 b9' hb hlc ⊢
  clear hob hdb hL hLl h0 h9 hN
  by_cases hc1 : c = 1
  · obtain rfl : N = 0 := by omega
    obtain rfl : L = [] := List.eq_nil_of_length_eq_zero HLL.out
    subst hc1
    set_option maxRecDepth 100000 in go_enter Try.func50, Try.ntmps50
    set_option maxRecDepth 100000 in go_wp2_with (first | (go_at_call 92; refine HC.out.mono ?_; rintro e w' ⟨rfl, rfl⟩) | (go_at_call 95; refine HT.out.mono ?_; rintro e w1 ⟨rfl, hb1⟩; (have HB := Lib.hid hb1); clear hb1) | (at_make; refine wpList_make_full _ rfl _ _ 82 rfl w1.heap.size 5 i0 (.int .u8 0) 1 Try.underlying82 hi hz0 hz1 .i64 .i64 _ _ 0 rfl rfl rfl rfl (by rw [hz2]; omega) (by unfold maxLen; omega) (Nat.le_refl _) ?_; intro w2 hO2 hg2; (have HO2 := Lib.hid (made0_bytes hO2)); (have HB2 := Lib.hid (HB.out.grown hg2 HB.out.size (fun k e => by cases e))); clear hO2 hg2))
    set_option maxRecDepth 100000 in go_wp2
    go_loopw [28] (fun v wr => v = .int .i64 0 ∧ Hid (Own byc 1 wr w1.heap.size 5 (.slice (some ⟨w1.heap.size, 0, none⟩) 0 0) []) ∧ Hid (Below w.heap.size w wr)) (fun v _ => (0 - (intOf v)).toNat)
    case atStart => exact ⟨rfl, HO2.out, HB2.out⟩
    case round =>
      obtain ⟨rfl, HOW, HBR⟩ := hrel
      have hcv : (convert 82 9 (.slice (some ⟨w1.heap.size, 0, none⟩) 0 0)).run Try.prog wr = .ok (.string ⟨#[]⟩) wr := conv_row (A := some ⟨w1.heap.size, 0, none⟩) (l := []) (c := 0) (Own.slAt (A := some ⟨w1.heap.size, 0, none⟩) (c := 0) (l := []) byc_len HOW.out).row
      set_option maxRecDepth 100000 in go_wp2
      go_ret2
      exact ⟨by rw [HV.out, HE.out]; rfl, HBR.out⟩
  · have h2c : ¬ c = 1 := hc1
    have h2c' : (1 : Int) ≤ c := by omega
    set_option maxRecDepth 100000 in go_enter Try.func50, Try.ntmps50
    set_option maxRecDepth 100000 in go_wp2_with (first | (go_at_call 92; refine HC.out.mono ?_; rintro e w' ⟨rfl, rfl⟩) | (go_at_call 95; refine HT.out.mono ?_; rintro e w1 ⟨rfl, hb1⟩; (have HB := Lib.hid hb1); clear hb1) | (at_make; refine wpList_make_full _ rfl _ _ 82 rfl w1.heap.size 5 i0 (.int .u8 0) 1 Try.underlying82 hi hz0 hz1 .i64 .i64 _ _ N rfl rfl rfl rfl (by rw [hz2]; omega) (by unfold maxLen; omega) (Nat.le_refl _) ?_; intro w2 hO2 hg2; (have HO2 := Lib.hid (made0_bytes hO2)); (have HB2 := Lib.hid (HB.out.grown hg2 HB.out.size (fun k e => by cases e))); clear hO2 hg2))
    set_option maxRecDepth 100000 in go_wp2
    obtain ⟨g, hg⟩ : ∃ g, w1.heap.size = g := ⟨_, rfl⟩
    rw [hg] at HO2 ⊢
    have hgw : w.heap.size ≤ g := by rw [← hg]; exact HB.out.size
    go_loopw [28] (fun v wr => ∃ j : Nat, v = .int .i64 j ∧ j ≤ N ∧ Hid (Own byc 1 wr g 5 (.slice (some ⟨g, 0, none⟩) N N) (L.take j ++ List.replicate (N - j) 0)) ∧ Hid (Below w.heap.size w wr)) (fun v _ => (N - (intOf v)).toNat)
    case atStart => exact ⟨0, rfl, by omega, Lib.hid (by simpa using HO2.out), HB2.out⟩
    case round =>
      obtain ⟨j, rfl, hjN, HOW, HBR⟩ := hrel
      by_cases hlt : j < N
      · obtain ⟨ad', e', c0'⟩ := (HR.out.below HBR.out).int (j + 1) (by rw [HNL.out]; omega)
        cases e'
        have hx := HLG.out j (by rw [HNL.out]; omega)
        obtain ⟨x, hxx⟩ : ∃ x, l.getD (j + 1) 0 = x := ⟨_, rfl⟩
        rw [hxx] at c0' hx
        rw [show ad.add (j + 1) = ⟨ad.block, ad.off + 1 + j, none⟩ from by unfold Addr.add; rw [if_neg (by omega), show ad.off + (j + 1) = ad.off + 1 + j from by omega]] at c0'
        have hLN : L.length = N := HLL.out
        have hTL : (L.take j ++ List.replicate (N - j) 0).length = N := by rw [List.length_append, List.length_take, List.length_replicate]; omega
        have HF := Lib.hid (fill_next HLL.out hlt)
        have HX := Lib.hid hx.1
        have hx0 := hx.2.1
        have hx1 := hx.2.2
        have bj : decide ((j : Int) < N) = true := by simp; omega
        have g1 : (0 : Int) ≤ j := by omega
        have g2 : (j : Int) < N := by omega
        clear hx hxx
        have hst := own_store1 (v := byv) hTL.symm HOW.out j (L.getD j 0)
        rw [HF.out, show byv (L.getD j 0) = .int .u8 x from by unfold byv; rw [HX.out]] at hst
        have HST := Lib.hid hst.1
        have HSG := Lib.hid (HBR.out.grown hst.2 HBR.out.size (fun k e => by cases e; exact hgw))
        have f0 := (own_free1 HOW.out j).1
        have hO3 : Own (fun x => [byv x]) 1 wr g 5 (.slice (some ⟨g, 0, none⟩) (L.take j ++ List.replicate (N - j) 0).length N) (L.take j ++ List.replicate (N - j) 0) := by rw [hTL]; exact HOW.out
        have q0 : wr.cell? ⟨g, j, none⟩ = some (.int .u8 0) := own_cell1 hO3 j 0 (by rw [List.getElem?_append_right (by rw [List.length_take]; omega), List.length_take, List.getElem?_replicate, if_pos (by omega)])
        clear hst hO3 hTL hLN
        set_option maxRecDepth 100000 in go_wp2
        go_roundw
        case rel => exact ⟨j + 1, by simp, by omega, HST.out, HSG.out⟩
        case measure => simp [intOf]; omega
      · have bj : decide ((j : Int) < N) = false := by simp; omega
        obtain rfl : j = N := by omega
        have hO := HOW.out
        rw [Nat.sub_self, List.replicate_zero, List.append_nil, List.take_of_length_le (by have := HLL.out; omega)] at hO
        have hcv : (convert 82 9 (.slice (some ⟨g, 0, none⟩) j j)).run Try.prog wr = .ok (.string ⟨L.toArray⟩) wr := by
          have hO2 : Own byc 1 wr g 5 (.slice (some ⟨g, 0, none⟩) L.length j) L := by rw [HLL.out]; exact hO
          have := conv_row (c := j) (hO2.slAt byc_len).row
          rwa [HLL.out] at this
        clear hO
        set_option maxRecDepth 100000 in go_wp2
        go_ret2
        exact ⟨by rw [HV.out, HE.out]; rfl, HBR.out⟩
end Go.Proofs.Ytckanomabhbkaaa
