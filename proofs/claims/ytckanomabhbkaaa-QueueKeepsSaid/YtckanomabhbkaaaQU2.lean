/- The reference's Put where there is room, walked. -/
import Derived.Test.YtckanomabhbkaaaQU
import Derived.Deep.RegionLaw
import Derived.Maps.RangeWalk
import Derived.Deep.Slices
namespace Go.Proofs.Ytckanomabhbkaaa
open Go.RowKit Go.Shelf
set_option linter.unusedVariables false
/-- The queue that is built: its variable's block, its row. -/
def OutI (L : Int) (O : Nat) (out : List Pk) (W : World) : Prop := ∃ A6 c6, W.heap[O]? = some (.cells #[.int .i64 L, .slice A6 out.length c6] 24 (0, 0)) ∧ Own Pk.cells 6 W O 30 (.slice A6 out.length c6) out
theorem RowAt.drop {w : World} {ad : Addr} {l : List Pk} (h : RowAt Pk.cells 6 w (some ad) l) (i : Nat) : RowAt Pk.cells 6 w (some (ad.add (i * 6))) (l.drop i) := by
  refine ⟨by rw [List.length_drop]; have := h.1; omega, fun hn => ⟨_, rfl, fun k x hx j v hv => ?_⟩⟩
  rw [List.length_drop] at hn
  obtain ⟨ad', e, hc⟩ := h.2 (by omega)
  cases e
  rw [List.getElem?_drop] at hx
  have := hc (i + k) x hx j v hv
  rw [Go.Deep.add_add, show i * 6 + (k * 6 + j) = (i + k) * 6 + j from by rw [Nat.add_mul]; omega]
  exact this
set_option maxHeartbeats 3200000 in
theorem refPut_room (L : Int) (A : Option Addr) (c : Nat) (l : List Pk) (p : Pk) (w : World) (hr : PkAt w A c l) (h1 : chk L l = 0) (h2 : pform p = 0) (h3 : idx l p.id < 0) (h4 : (l.length : Int) ≠ L) :
    Calls Try.prog 23 #[.agg #[.int .i64 L, .slice A l.length c], .agg #[.int .i64 p.id, .int .i64 p.dst, .int .i64 p.pr, .int .i64 p.born, .int .i64 p.life, .string p.data]] w fun e w' => PutAns w.heap.size w' e L l p ∧ Below w.heap.size w w' := by
  have HR := Lib.hid hr
  have hck := chk_ok h1
  have b1 : (chk L l != 0) = false := by simp [h1]
  have b2 : (pform p != 0) = false := by simp [h2]
  have b3 : decide (0 ≤ idx l p.id) = false := by simp; omega
  have hu24 := Try.underlying24
  have hu30 := Try.underlying30
  have HW := Lib.hid (putW_below w L A c l p)
  have HLE := Lib.hid hr.le
  have hcap := hr.cap
  have HE := Lib.hid (show putE L l p = 0 by unfold putE; rw [if_neg (by rw [h1]; simp), if_neg (by rw [h2]; simp), if_neg (by omega), if_neg (by omega)])
  have b4 : ((l.length : Int) == L) = false := by simp [h4]
  have H4 := Lib.hid h4
  clear hr h1 h2 h3 h4
  go_enter Try.func23, Try.ntmps23
  go_wp2_with fail
  refine (refCheck_any L A c l _ (HR.out.row.below HW.out)).mono ?_
  rintro e w1 ⟨rfl, hb1⟩
  have HB1 := Lib.hid (show Below (w.heap.size + 3) (putW w L A c l p) w1 from by have h := hb1; rw [putW_size] at h; exact h)
  obtain ⟨⟨q0, q1⟩, ⟨p0, p1, p2, p3, p4, p5⟩, ⟨r0, r1, f0, f1⟩⟩ := putW_cells HB1.out
  clear hb1
  go_wp2_with fail
  refine (refPacket_any p _).mono ?_
  rintro e w2 ⟨rfl, hb2⟩
  have HB2 := Lib.hid (HB1.out.trans (hb2.mono (by have := HB1.out.size; rw [putW_size] at this; omega)))
  clear q0 q1 p0 p1 p2 p3 p4 p5 r0 r1 f0 f1 hb2
  obtain ⟨⟨q0, q1⟩, ⟨p0, p1, p2, p3, p4, p5⟩, ⟨r0, r1, f0, f1⟩⟩ := putW_cells HB2.out
  go_wp2_with fail
  refine (refIndex_any A c l _ _ (HR.out.row.below (HW.out.trans (HB2.out.mono (by omega))))).mono ?_
  rintro e w3 ⟨rfl, hb3⟩
  have HB3 := Lib.hid (HB2.out.trans (hb3.mono (by have := HB2.out.size; rw [putW_size] at this; omega)))
  clear q0 q1 p0 p1 p2 p3 p4 p5 r0 r1 f0 f1 hb3
  obtain ⟨⟨q0, q1⟩, ⟨p0, p1, p2, p3, p4, p5⟩, ⟨r0, r1, f0, f1⟩⟩ := putW_cells HB3.out
  have hz3 : w.heap.size + 3 ≤ w3.heap.size := by have := HB3.out.size; rw [putW_size] at this; omega
  have hz3 : w.heap.size + 3 ≤ w3.heap.size := by have := HB3.out.size; rw [putW_size] at this; omega
  go_wp2
  clear q0 q1 p0 p1 p2 p3 p4 p5 r0 r1 f0 f1
  have HOI0 : Hid (OutI L w3.heap.size (l.take 0) (w3.alloc (.cells #[.int .i64 L, .slice none 0 0] 24))) := ⟨none, 0, blk_new w3 _ rfl, Own.nil _ _ _⟩
  go_loopw [12] (fun v wr => ∃ i : Nat, v = .int .i64 i ∧ i ≤ l.length ∧ Hid (∀ j : Int, 0 ≤ j → j < i → abovep p.pr (gp l j) = false) ∧ Hid (Below w3.heap.size w3 wr) ∧ Hid (OutI L w3.heap.size (l.take i) wr)) (fun v _ => (l.length - (intOf v)).toNat)
  case atStart => exact ⟨0, rfl, by omega, fun j a b => by omega, (Below.refl _ _).alloc (Nat.le_refl _) _, HOI0.out⟩
  case round =>
    obtain ⟨i, rfl, hle, HNA, HBT, HOI⟩ := hrel
    have HBW := Lib.hid (HB3.out.trans (HBT.out.mono hz3))
    obtain ⟨⟨q0, q1⟩, ⟨p0, p1, p2, p3, p4, p5⟩, ⟨r0, r1, f0, f1⟩⟩ := putW_cells HBW.out
    have HRW := Lib.hid (HR.out.row.below (HW.out.trans (HBW.out.mono (by omega))))
    by_cases hlt : i < l.length
    · obtain ⟨ad, e', c0, c1, c2, c3, c4, c5⟩ := HRW.out.pk i (by omega) (by omega)
      subst e'
      rw [Int.toNat_natCast] at c0 c1 c2 c3 c4 c5
      have hli : decide ((i : Int) < l.length) = true := by simp; omega
      by_cases hp : (gp l i).pr ≤ p.pr
      · have hd : decide ((gp l i).pr ≤ p.pr) = true := by simp [hp]
        obtain ⟨A6, c6, h1, h2⟩ := HOI.out
        obtain ⟨out, hout⟩ : ∃ out, l.take i = out := ⟨_, rfl⟩
        rw [hout] at h1 h2
        have HOL := Lib.hid (show out.length = i by rw [← hout, List.length_take]; omega)
        have HOUT := Lib.hid hout
        have o1 : wr.cell? ⟨w3.heap.size, 1, none⟩ = some (.slice A6 out.length c6) := blk_cell h1 1
        have o2 : wr.frozen? ⟨w3.heap.size, 1, none⟩ = false := blk_free h1 1
        have l1 : w3.heap.size < wr.heap.size := blk_lt h1
        have n1 : ¬ w3.heap.size = wr.heap.size := by omega
        have H1 := Lib.hid h1
        have H2 := Lib.hid h2
        have HIN := Lib.hid (show (out.length + 1) * 56 ≤ 140737488355328 by have := HOL.out; omega)
        clear h1 h2 hout
        have l2 : (ad.add (i * 6)).block < wr.heap.size := cell_lt c0
        have n2 : ¬ (ad.add (i * 6)).block = wr.heap.size := by omega
        have g1 : (0 : Int) ≤ i := by omega
        have g2 : (i : Int) < l.length := by omega
        go_wp2_with fail
        go_quiet (fail)
        go_wp2_with fail
        obtain ⟨wq, hwq⟩ : ∃ wq, wr.drewN nq = wq := ⟨_, rfl⟩
        rw [hwq]
        have hce : ∀ a, wq.cell? a = wr.cell? a := fun a => by rw [← hwq]; rfl
        have hcf : ∀ a, wq.frozen? a = wr.frozen? a := fun a => by rw [← hwq]; rfl
        have hsq : wq.heap.size = wr.heap.size := by rw [← hwq]; rfl
        rw [← hce] at o1 c0 c1 c2 c3 c4 c5
        rw [← hcf] at o2
        rw [← hsq] at n1 n2 l1
        replace H1 : Hid (wq.heap[w3.heap.size]? = some (.cells #[.int .i64 L, .slice A6 out.length c6] 24 (0, 0))) := by rw [← hwq]; exact H1
        replace H2 : Hid (Own Pk.cells 6 wq w3.heap.size 30 (.slice A6 out.length c6) out) := by rw [← hwq]; exact H2
        replace HBT : Hid (Below w3.heap.size w3 wq) := by rw [← hwq]; exact blw_drewN HBT.out _
        clear hwq hce hcf hsq l2 q0 q1 p0 p1 p2 p3 p4 p5 r0 r1 f0 f1 HBW HRW
        go_region_law (refine Own.append_step Pk.cells_len Pk.cells_one rfl _ _ 22 30 _ 56 rfl Try.underlying22 info30 rfl (by decide) (by decide) (.slice A6 out.length c6) out (by simp [Act.eval]) (base := w3.heap.size) ((H2.out.alloc _).drew) ⟨wq.heap.size, 0, none⟩ [gp l i] 1 (by simp [Act.eval]) (RowAt.new wq _ _ _ rfl) (by simp; omega) HIN.out ?_; intro v1 w5 hO5 hg5 _; (have hfm := hO5.form); obtain ⟨A7, c7, rfl, _, _⟩ := hfm; (have hAP := out_app (n := out.length + 1) H1.out H2.out (((Below.refl _ _).alloc (Nat.le_refl _) _).drew) hO5 hg5 (by simp)); (have HAP := Lib.hid hAP); (have u2 : w5.cell? ⟨w3.heap.size, 1, none⟩ = some (.slice A6 out.length c6) := blk_cell hAP.2.2.2.2 1); (have u3 : w5.frozen? ⟨w3.heap.size, 1, none⟩ = false := blk_free hAP.2.2.2.2 1); clear hO5 hg5 hAP)
        all_goals
          go_wp2
          go_roundw
          case rel =>
            have ht : l.take (i + 1) = out ++ [gp l i] := by rw [take_next hlt, HOUT.out]
            exact ⟨i + 1, by simp, by omega, fun j a b => by
              by_cases hj : j = i
              · subst hj; simp [abovep]; omega
              · exact HNA.out j a (by omega), HAP.out.2.2.1 _ _ HBT.out (by omega) (by omega) (by omega), by rw [ht]; exact ⟨A7, c7, HAP.out.1, HAP.out.2.1⟩⟩
          case measure => simp [intOf]; omega
      · have hd : decide ((gp l i).pr ≤ p.pr) = false := by simp; omega
        have g1 : (0 : Int) ≤ i := by omega
        have g2 : (i : Int) < l.length := by omega
        go_wp2_with fail
        go_quiet (fail)
        obtain ⟨wq, hwq⟩ : ∃ wq, wr.drewN nq = wq := ⟨_, rfl⟩
        rw [hwq]
        replace HBT : Hid (Below w3.heap.size w3 wq) := by rw [← hwq]; exact blw_drewN HBT.out _
        replace HOI : Hid (OutI L w3.heap.size (l.take i) wq) := by rw [← hwq]; exact HOI
        clear q0 q1 p0 p1 p2 p3 p4 p5 r0 r1 f0 f1 HBW HRW hwq
        have HBW := Lib.hid (HB3.out.trans (HBT.out.mono hz3))
        obtain ⟨⟨q0, q1⟩, ⟨p0, p1, p2, p3, p4, p5⟩, ⟨r0, r1, f0, f1⟩⟩ := putW_cells HBW.out
        obtain ⟨A6, c6, h1, h2⟩ := HOI.out
        obtain ⟨out, hout⟩ : ∃ out, l.take i = out := ⟨_, rfl⟩
        rw [hout] at h1 h2
        have HOL := Lib.hid (show out.length = i by rw [← hout, List.length_take]; omega)
        have HOUT := Lib.hid hout
        have o0 : wq.cell? ⟨w3.heap.size, 0, none⟩ = some (.int .i64 L) := blk_cell h1 0
        have o1 : wq.cell? ⟨w3.heap.size, 1, none⟩ = some (.slice A6 out.length c6) := blk_cell h1 1
        have o2 : wq.frozen? ⟨w3.heap.size, 1, none⟩ = false := blk_free h1 1
        have l1 : w3.heap.size < wq.heap.size := blk_lt h1
        have n1 : ¬ w3.heap.size = wq.heap.size := by omega
        have H1 := Lib.hid h1
        have H2 := Lib.hid h2
        have HIN := Lib.hid (show (out.length + 1) * 56 ≤ 140737488355328 by have := HOL.out; omega)
        clear h1 h2 hout
        set_option maxRecDepth 100000 in
        go_wp2_with (at_builtin; refine Own.append Pk.cells_len Pk.cells_one rfl _ _ 22 30 _ 56 rfl Try.underlying22 info30 rfl (by decide) (by decide) (.slice A6 out.length c6) out rfl (base := w3.heap.size) (H2.out.alloc _) ⟨wq.heap.size, 0, none⟩ [p] 1 rfl (RowAt.new wq _ _ _ rfl) (by simp; omega) HIN.out ?_; intro v1 w5 hO5 hg5 _; (have hfm := hO5.form); obtain ⟨A7, c7, rfl, _, _⟩ := hfm; (have hAP := out_app (n := out.length + 1) H1.out H2.out ((Below.refl _ _).alloc (Nat.le_refl _) _) hO5 hg5 (by simp)); (have HAP := Lib.hid hAP); (have u2 : w5.cell? ⟨w3.heap.size, 1, none⟩ = some (.slice A6 out.length c6) := blk_cell hAP.2.2.2.2 1); (have u3 : w5.frozen? ⟨w3.heap.size, 1, none⟩ = false := blk_free hAP.2.2.2.2 1); clear hO5 hg5 hAP)
        obtain ⟨w8, hw8⟩ : ∃ w8, w5.setCell ⟨w3.heap.size, 1, none⟩ (.slice A7 (out.length + 1) c7) = w8 := ⟨_, rfl⟩
        rw [hw8] at HAP ⊢
        have HB8 := Lib.hid (HAP.out.2.2.1 _ _ HBT.out (by omega) (by omega) (by omega))
        have H81 := Lib.hid HAP.out.1
        have H82 := Lib.hid HAP.out.2.1
        clear hw8 HAP u2 u3 q0 q1 p0 p1 p2 p3 p4 p5 r0 r1 f0 f1 o0 o1 o2 l1 n1 HBW H1 H2
        obtain ⟨out2, ho2⟩ : ∃ o, out ++ [p] = o := ⟨_, rfl⟩
        rw [ho2] at H81 H82
        have HOL2 := Lib.hid (show out2.length = i + 1 by rw [← ho2, List.length_append, HOL.out]; rfl)
        have HO2 := Lib.hid ho2
        clear ho2
        have o1 : w8.cell? ⟨w3.heap.size, 1, none⟩ = some (.slice A7 out2.length c7) := blk_cell H81.out 1
        have o2 : w8.frozen? ⟨w3.heap.size, 1, none⟩ = false := blk_free H81.out 1
        have HSR := Lib.hid ((HR.out.row.below (HW.out.trans ((HB3.out.trans (HB8.out.mono hz3)).mono (by omega)))).drop i)
        have HLN := Lib.hid (show (out2.length + (l.drop i).length) * 56 ≤ 140737488355328 by rw [HOL2.out, List.length_drop]; omega)
        have hlc : (i : Int) ≤ c := by have := HLE.out; omega
        have hnc : ¬ c = i := by have := HLE.out; omega
        go_region_law (refine Own.append_step Pk.cells_len Pk.cells_one rfl _ _ 22 30 _ 56 rfl Try.underlying22 info30 rfl (by decide) (by decide) (.slice A7 out2.length c7) out2 (by simp [Act.eval]) (base := w3.heap.size) (H82.out.drew) (ad.add (i * 6)) (l.drop i) (c - i) (by simp [Act.eval]) HSR.out (by have := HB8.out.size; simpa using this) HLN.out ?_; intro v1 w9 hO9 hg9 _; obtain ⟨out3, ho3⟩ : ∃ o, out2 ++ l.drop i = o := ⟨_, rfl⟩; rw [ho3] at hO9; (have HO3 := Lib.hid ho3); (have hfm := hO9.form); obtain ⟨A9, c9, rfl, _, _⟩ := hfm; (have hAP := out_app (n := out3.length) H81.out H82.out ((Below.refl _ _).drew) hO9 hg9 rfl); (have HAP := Lib.hid hAP); (have u2 : w9.cell? ⟨w3.heap.size, 1, none⟩ = some (.slice A7 out2.length c7) := blk_cell hAP.2.2.2.2 1); (have u3 : w9.frozen? ⟨w3.heap.size, 1, none⟩ = false := blk_free hAP.2.2.2.2 1); clear hO9 hg9 hAP ho3)
        have HPOS := Lib.hid (show insPos p.pr l = i by
          have hx : fidx (abovep p.pr) l = i := fidx_hit (by omega) (by omega) (by simp [abovep]; omega) HNA.out
          unfold insPos; rw [hx, if_neg (by omega), Int.toNat_natCast])
        all_goals
          obtain ⟨w10, hw10⟩ : ∃ w10, w9.setCell ⟨w3.heap.size, 1, none⟩ (.slice A9 out3.length c9) = w10 := ⟨_, rfl⟩
          rw [hw10] at HAP ⊢
          have HB10 := Lib.hid (HAP.out.2.2.1 _ _ HB8.out HB8.out.size (by omega) (by omega))
          have H101 := Lib.hid HAP.out.1
          have H102 := Lib.hid HAP.out.2.1
          have v0 : w10.cell? ⟨w3.heap.size, 0, none⟩ = some (.int .i64 L) := blk_cell H101.out 0
          have v1 : w10.cell? ⟨w3.heap.size, 1, none⟩ = some (.slice A9 out3.length c9) := blk_cell H101.out 1
          have HBX := Lib.hid (HB3.out.trans (HB10.out.mono hz3))
          obtain ⟨⟨q0, q1⟩, ⟨p0, p1, p2, p3, p4, p5⟩, ⟨r0, r1, f0, f1⟩⟩ := putW_cells HBX.out
          clear hw10 HAP u2 u3 o1 o2 q0 q1 p0 p1 p2 p3 p4 p5
          have hll : w3.heap.size < w10.heap.size := blk_lt H101.out
          go_wp2
          refine bodyPost_ret (v := .tuple #[.agg #[.int .i64 L, .slice A9 out3.length c9], .slice none 0 0, .int .i64 0]) (by simp [results, Try.results23, go_sem, r0, r1]) rfl ⟨?_, ?_⟩
          · refine PutAns.good HE.out ?_ (by rw [if_neg H4.out]) ((H102.out.setBelow (by simp; omega) _).setBelow (by simp; omega) _).pkAt (PkAt.zero _) (H102.out.fresh (by omega)) (fun a h => by cases h)
            rw [if_neg H4.out, ← HO3.out, ← HO2.out, ← HOUT.out, List.append_assoc]
            unfold ins
            rw [HPOS.out]; rfl
          · exact ((HW.out.trans (HBX.out.mono (by omega))).setCell (by simp; omega) _).setCell (by simp; omega) _
    · have hli : decide ((i : Int) < l.length) = false := by simp; omega
      obtain rfl : i = l.length := by omega
      go_wp2_with fail
      go_quiet (fail)
      obtain ⟨wq, hwq⟩ : ∃ wq, wr.drewN nq = wq := ⟨_, rfl⟩
      rw [hwq]
      replace HBT : Hid (Below w3.heap.size w3 wq) := by rw [← hwq]; exact blw_drewN HBT.out _
      replace HOI : Hid (OutI L w3.heap.size (l.take l.length) wq) := by rw [← hwq]; exact HOI
      clear q0 q1 p0 p1 p2 p3 p4 p5 r0 r1 f0 f1 HBW HRW hwq
      have HBW := Lib.hid (HB3.out.trans (HBT.out.mono hz3))
      obtain ⟨⟨q0, q1⟩, ⟨p0, p1, p2, p3, p4, p5⟩, ⟨r0, r1, f0, f1⟩⟩ := putW_cells HBW.out
      obtain ⟨A6, c6, h1, h2⟩ := HOI.out
      obtain ⟨out, hout⟩ : ∃ out, l.take l.length = out := ⟨_, rfl⟩
      rw [hout] at h1 h2
      have HOL := Lib.hid (show out.length = l.length by rw [← hout, List.take_length])
      have HOUT := Lib.hid hout
      have o0 : wq.cell? ⟨w3.heap.size, 0, none⟩ = some (.int .i64 L) := blk_cell h1 0
      have o1 : wq.cell? ⟨w3.heap.size, 1, none⟩ = some (.slice A6 out.length c6) := blk_cell h1 1
      have o2 : wq.frozen? ⟨w3.heap.size, 1, none⟩ = false := blk_free h1 1
      have l1 : w3.heap.size < wq.heap.size := blk_lt h1
      have n1 : ¬ w3.heap.size = wq.heap.size := by omega
      have H1 := Lib.hid h1
      have H2 := Lib.hid h2
      have HIN := Lib.hid (show (out.length + 1) * 56 ≤ 140737488355328 by have := HOL.out; omega)
      clear h1 h2 hout
      set_option maxRecDepth 100000 in
      go_wp2_with (at_builtin; refine Own.append Pk.cells_len Pk.cells_one rfl _ _ 22 30 _ 56 rfl Try.underlying22 info30 rfl (by decide) (by decide) (.slice A6 out.length c6) out rfl (base := w3.heap.size) (H2.out.alloc _) ⟨wq.heap.size, 0, none⟩ [p] 1 rfl (RowAt.new wq _ _ _ rfl) (by simp; omega) HIN.out ?_; intro v1 w5 hO5 hg5 _; (have hfm := hO5.form); obtain ⟨A7, c7, rfl, _, _⟩ := hfm; (have hAP := out_app (n := out.length + 1) H1.out H2.out ((Below.refl _ _).alloc (Nat.le_refl _) _) hO5 hg5 (by simp)); (have HAP := Lib.hid hAP); (have u2 : w5.cell? ⟨w3.heap.size, 1, none⟩ = some (.slice A6 out.length c6) := blk_cell hAP.2.2.2.2 1); (have u3 : w5.frozen? ⟨w3.heap.size, 1, none⟩ = false := blk_free hAP.2.2.2.2 1); clear hO5 hg5 hAP)
      obtain ⟨w8, hw8⟩ : ∃ w8, w5.setCell ⟨w3.heap.size, 1, none⟩ (.slice A7 (out.length + 1) c7) = w8 := ⟨_, rfl⟩
      rw [hw8] at HAP ⊢
      have HB8 := Lib.hid (HAP.out.2.2.1 _ _ HBT.out (by omega) (by omega) (by omega))
      have H81 := Lib.hid HAP.out.1
      have H82 := Lib.hid HAP.out.2.1
      clear hw8 HAP u2 u3 q0 q1 p0 p1 p2 p3 p4 p5 r0 r1 f0 f1 o0 o1 o2 l1 n1 HBW H1 H2
      obtain ⟨out2, ho2⟩ : ∃ o, out ++ [p] = o := ⟨_, rfl⟩
      rw [ho2] at H81 H82
      have HOL2 := Lib.hid (show out2.length = l.length + 1 by rw [← ho2, List.length_append, HOL.out]; rfl)
      have HO2 := Lib.hid ho2
      clear ho2
      have o1 : w8.cell? ⟨w3.heap.size, 1, none⟩ = some (.slice A7 out2.length c7) := blk_cell H81.out 1
      have o2 : w8.frozen? ⟨w3.heap.size, 1, none⟩ = false := blk_free H81.out 1
      have hle8 : out2.length ≤ c7 := by
        obtain ⟨A', c', e', h1, h2⟩ := H82.out.form
        cases e'; exact h1
      obtain ⟨i0, hi0, hi6⟩ := info30'
      have HZ := fun (B : Option Addr) (cc : Nat) (W : World) (ty : TypeId) => run_append_zero (P := Try.prog) W 22 ty 30 A7 B out2.length c7 cc i0 Try.underlying22 hi0 hle8
      have HAP := Lib.hid (out_app (w5 := w8) (n := out2.length) H81.out H82.out (Below.refl _ _) H82.out ⟨rfl, rfl, rfl, Nat.le_refl _, fun _ _ _ => rfl⟩ rfl)
      have HPOS := Lib.hid (show insPos p.pr l = l.length by
        have hx : fidx (abovep p.pr) l = -1 := fidx_miss HNA.out
        unfold insPos; rw [hx, if_pos (by omega)])
      have hlc : (l.length : Int) ≤ c := by have := HLE.out; omega
      have HCAP := Lib.hid hcap
      cases A with
      | none =>
        obtain rfl : l = [] := by
          cases l with
          | nil => rfl
          | cons x l => obtain ⟨ad, e, _⟩ := HR.out.row.2 (by simp); cases e
        obtain rfl := HR.out.nil rfl
        go_region_law (refine step_append_is rfl _ _ 22 22 rfl (.slice A7 out2.length c7) (.slice none 0 0) (by simp [Act.eval]) (by simp [Act.eval]) (HZ none 0 _ _) ?_)
        all_goals
          obtain ⟨w10, hw10⟩ : ∃ w10, (w8.setCell ⟨w3.heap.size, 1, none⟩ (.slice A7 out2.length c7)).drew = w10 := ⟨_, rfl⟩
          rw [hw10]
          have HB10 : Hid (Below w3.heap.size w3 w10) := by rw [← hw10]; exact (HAP.out.2.2.1 _ _ HB8.out HB8.out.size (by omega) (by omega)).drew
          have H101 : Hid (w10.heap[w3.heap.size]? = some (.cells #[.int .i64 L, .slice A7 out2.length c7] 24 (0, 0))) := by rw [← hw10]; exact HAP.out.1
          have H102 : Hid (Own Pk.cells 6 w10 w3.heap.size 30 (.slice A7 out2.length c7) out2) := by rw [← hw10]; exact HAP.out.2.1.drew
          have v0 : w10.cell? ⟨w3.heap.size, 0, none⟩ = some (.int .i64 L) := blk_cell H101.out 0
          have v1 : w10.cell? ⟨w3.heap.size, 1, none⟩ = some (.slice A7 out2.length c7) := blk_cell H101.out 1
          have HBX := Lib.hid (HB3.out.trans (HB10.out.mono hz3))
          obtain ⟨⟨q0, q1⟩, ⟨p0, p1, p2, p3, p4, p5⟩, ⟨r0, r1, f0, f1⟩⟩ := putW_cells HBX.out
          clear hw10 HAP o1 o2 q0 q1 p0 p1 p2 p3 p4 p5
          have hll : w3.heap.size < w10.heap.size := blk_lt H101.out
          go_wp2
          refine bodyPost_ret (v := .tuple #[.agg #[.int .i64 L, .slice A7 out2.length c7], .slice none 0 0, .int .i64 0]) (by simp [results, Try.results23, go_sem, r0, r1]) rfl ⟨?_, ?_⟩
          · refine PutAns.good HE.out ?_ (by rw [if_neg H4.out]) ((H102.out.setBelow (by simp; omega) _).setBelow (by simp; omega) _).pkAt (PkAt.zero _) (H102.out.fresh (by omega)) (fun a h => by cases h)
            rw [if_neg H4.out, ← HO2.out, ← HOUT.out]
            unfold ins
            rw [HPOS.out, List.drop_length]
          · exact ((HW.out.trans (HBX.out.mono (by omega))).setCell (by simp; omega) _).setCell (by simp; omega) _
      | some ad =>
        by_cases hcl : c = l.length
        · have hz : l.length - l.length = 0 := by omega
          go_region_law (refine step_append_is rfl _ _ 22 22 rfl (.slice A7 out2.length c7) (.slice (some ad) 0 0) (by simp [Act.eval]) (by simp [Act.eval]) (HZ (some ad) 0 _ _) ?_)
          all_goals
            obtain ⟨w10, hw10⟩ : ∃ w10, (w8.setCell ⟨w3.heap.size, 1, none⟩ (.slice A7 out2.length c7)).drew = w10 := ⟨_, rfl⟩
            rw [hw10]
            have HB10 : Hid (Below w3.heap.size w3 w10) := by rw [← hw10]; exact (HAP.out.2.2.1 _ _ HB8.out HB8.out.size (by omega) (by omega)).drew
            have H101 : Hid (w10.heap[w3.heap.size]? = some (.cells #[.int .i64 L, .slice A7 out2.length c7] 24 (0, 0))) := by rw [← hw10]; exact HAP.out.1
            have H102 : Hid (Own Pk.cells 6 w10 w3.heap.size 30 (.slice A7 out2.length c7) out2) := by rw [← hw10]; exact HAP.out.2.1.drew
            have v0 : w10.cell? ⟨w3.heap.size, 0, none⟩ = some (.int .i64 L) := blk_cell H101.out 0
            have v1 : w10.cell? ⟨w3.heap.size, 1, none⟩ = some (.slice A7 out2.length c7) := blk_cell H101.out 1
            have HBX := Lib.hid (HB3.out.trans (HB10.out.mono hz3))
            obtain ⟨⟨q0, q1⟩, ⟨p0, p1, p2, p3, p4, p5⟩, ⟨r0, r1, f0, f1⟩⟩ := putW_cells HBX.out
            clear hw10 HAP o1 o2 q0 q1 p0 p1 p2 p3 p4 p5
            have hll : w3.heap.size < w10.heap.size := blk_lt H101.out
            go_wp2
            refine bodyPost_ret (v := .tuple #[.agg #[.int .i64 L, .slice A7 out2.length c7], .slice none 0 0, .int .i64 0]) (by simp [results, Try.results23, go_sem, r0, r1]) rfl ⟨?_, ?_⟩
            · refine PutAns.good HE.out ?_ (by rw [if_neg H4.out]) ((H102.out.setBelow (by simp; omega) _).setBelow (by simp; omega) _).pkAt (PkAt.zero _) (H102.out.fresh (by omega)) (fun a h => by cases h)
              rw [if_neg H4.out, ← HO2.out, ← HOUT.out]
              unfold ins
              rw [HPOS.out, List.drop_length]
            · exact ((HW.out.trans (HBX.out.mono (by omega))).setCell (by simp; omega) _).setCell (by simp; omega) _
        · have hz : l.length - l.length = 0 := by omega
          go_region_law (refine step_append_is rfl _ _ 22 22 rfl (.slice A7 out2.length c7) (.slice (some (ad.add (l.length * 6))) 0 (c - l.length)) (by simp [Act.eval]) (by simp [Act.eval]) (HZ (some (ad.add (l.length * 6))) (c - l.length) _ _) ?_)
          all_goals
            obtain ⟨w10, hw10⟩ : ∃ w10, (w8.setCell ⟨w3.heap.size, 1, none⟩ (.slice A7 out2.length c7)).drew = w10 := ⟨_, rfl⟩
            rw [hw10]
            have HB10 : Hid (Below w3.heap.size w3 w10) := by rw [← hw10]; exact (HAP.out.2.2.1 _ _ HB8.out HB8.out.size (by omega) (by omega)).drew
            have H101 : Hid (w10.heap[w3.heap.size]? = some (.cells #[.int .i64 L, .slice A7 out2.length c7] 24 (0, 0))) := by rw [← hw10]; exact HAP.out.1
            have H102 : Hid (Own Pk.cells 6 w10 w3.heap.size 30 (.slice A7 out2.length c7) out2) := by rw [← hw10]; exact HAP.out.2.1.drew
            have v0 : w10.cell? ⟨w3.heap.size, 0, none⟩ = some (.int .i64 L) := blk_cell H101.out 0
            have v1 : w10.cell? ⟨w3.heap.size, 1, none⟩ = some (.slice A7 out2.length c7) := blk_cell H101.out 1
            have HBX := Lib.hid (HB3.out.trans (HB10.out.mono hz3))
            obtain ⟨⟨q0, q1⟩, ⟨p0, p1, p2, p3, p4, p5⟩, ⟨r0, r1, f0, f1⟩⟩ := putW_cells HBX.out
            clear hw10 HAP o1 o2 q0 q1 p0 p1 p2 p3 p4 p5
            have hll : w3.heap.size < w10.heap.size := blk_lt H101.out
            go_wp2
            refine bodyPost_ret (v := .tuple #[.agg #[.int .i64 L, .slice A7 out2.length c7], .slice none 0 0, .int .i64 0]) (by simp [results, Try.results23, go_sem, r0, r1]) rfl ⟨?_, ?_⟩
            · refine PutAns.good HE.out ?_ (by rw [if_neg H4.out]) ((H102.out.setBelow (by simp; omega) _).setBelow (by simp; omega) _).pkAt (PkAt.zero _) (H102.out.fresh (by omega)) (fun a h => by cases h)
              rw [if_neg H4.out, ← HO2.out, ← HOUT.out]
              unfold ins
              rw [HPOS.out, List.drop_length]
            · exact ((HW.out.trans (HBX.out.mono (by omega))).setCell (by simp; omega) _).setCell (by simp; omega) _
end Go.Proofs.Ytckanomabhbkaaa
