/- The reference's Put at a full queue, the last one being less urgent, walked. -/
import Derived.Test.YtckanomabhbkaaaQU3
namespace Go.Proofs.Ytckanomabhbkaaa
open Go.RowKit Go.Shelf
set_option linter.unusedVariables false
theorem RowAt.dropLast {w : World} {A : Option Addr} {l : List Pk} (h : RowAt Pk.cells 6 w A l) : RowAt Pk.cells 6 w A l.dropLast := by
  refine ⟨by rw [List.length_dropLast]; have := h.1; omega, fun hn => ?_⟩
  rw [List.length_dropLast] at hn
  obtain ⟨ad, e, hc⟩ := h.2 (by omega)
  refine ⟨ad, e, fun i x hx j v hv => hc i x ?_ j v hv⟩
  rw [List.dropLast_eq_take, List.getElem?_take] at hx
  split at hx
  · exact hx
  · cases hx
set_option maxHeartbeats 3200000 in
theorem refPut_drop (L : Int) (A : Option Addr) (c : Nat) (l : List Pk) (p : Pk) (w : World) (hr : PkAt w A c l) (h1 : chk L l = 0) (h2 : pform p = 0) (h3 : idx l p.id < 0) (h4 : (l.length : Int) = L) (h5 : p.pr < (lastPk l).pr) :
    Calls Try.prog 23 #[.agg #[.int .i64 L, .slice A l.length c], .agg #[.int .i64 p.id, .int .i64 p.dst, .int .i64 p.pr, .int .i64 p.born, .int .i64 p.life, .string p.data]] w fun e w' => PutAns w.heap.size w' e L l p ∧ Below w.heap.size w w' := by
  have HR := Lib.hid hr
  have hck := chk_ok h1
  have b1 : (chk L l != 0) = false := by simp [h1]
  have b2 : (pform p != 0) = false := by simp [h2]
  have b3 : decide (0 ≤ idx l p.id) = false := by simp; omega
  have hu24 := Try.underlying24
  have hu30 := Try.underlying30
  have HW := Lib.hid (putW_below w L A c l p)
  have HLE := Lib.hid hr.le
  have hcap := hr.cap
  have b4 : ((l.length : Int) == L) = true := by simp [h4]
  have hpos : 0 < l.length := by omega
  have H4 := Lib.hid h4
  have HE := Lib.hid (show putE L l p = 0 by unfold putE; rw [if_neg (by rw [h1]; simp), if_neg (by rw [h2]; simp), if_neg (by omega), if_neg (by omega)])
  have b5 : decide ((lastPk l).pr ≤ p.pr) = false := by simp; omega
  clear hr h1 h2 h3 h4 h5
  go_enter Try.func23, Try.ntmps23
  go_wp2_with fail
  refine (refCheck_any L A c l _ (HR.out.row.below HW.out)).mono ?_
  rintro e w1 ⟨rfl, hb1⟩
  have HB1 := Lib.hid (show Below (w.heap.size + 3) (putW w L A c l p) w1 from by have h := hb1; rw [putW_size] at h; exact h)
  obtain ⟨⟨q0, q1⟩, ⟨p0, p1, p2, p3, p4, p5⟩, ⟨r0, r1, f0, f1⟩⟩ := putW_cells HB1.out
  clear hb1
  go_wp2_with fail
  refine (refPacket_any p _).mono ?_
  rintro e w2 ⟨rfl, hb2⟩
  have HB2 := Lib.hid (HB1.out.trans (hb2.mono (by have := HB1.out.size; rw [putW_size] at this; omega)))
  clear q0 q1 p0 p1 p2 p3 p4 p5 r0 r1 f0 f1 hb2
  obtain ⟨⟨q0, q1⟩, ⟨p0, p1, p2, p3, p4, p5⟩, ⟨r0, r1, f0, f1⟩⟩ := putW_cells HB2.out
  go_wp2_with fail
  refine (refIndex_any A c l _ _ (HR.out.row.below (HW.out.trans (HB2.out.mono (by omega))))).mono ?_
  rintro e w3 ⟨rfl, hb3⟩
  have HB3 := Lib.hid (HB2.out.trans (hb3.mono (by have := HB2.out.size; rw [putW_size] at this; omega)))
  clear q0 q1 p0 p1 p2 p3 p4 p5 r0 r1 f0 f1 hb3
  obtain ⟨⟨q0, q1⟩, ⟨p0, p1, p2, p3, p4, p5⟩, ⟨r0, r1, f0, f1⟩⟩ := putW_cells HB3.out
  have hz3 : w.heap.size + 3 ≤ w3.heap.size := by have := HB3.out.size; rw [putW_size] at this; omega
  have hz3 : w.heap.size + 3 ≤ w3.heap.size := by have := HB3.out.size; rw [putW_size] at this; omega
  obtain ⟨ad, e', c0, c1, c2, c3, c4, c5⟩ := (HR.out.row.below (HW.out.trans (HB3.out.mono (by omega)))).pk ((l.length : Int) - 1) (by omega) (by omega)
  subst e'
  rw [show ((l.length : Int) - 1).toNat = l.length - 1 from by omega] at c0 c1 c2 c3 c4 c5
  replace c0 : w3.cell? (ad.add ((l.length - 1) * 6)) = some (.int .i64 (lastPk l).id) := c0
  replace c1 : w3.cell? ⟨(ad.add ((l.length - 1) * 6)).block, (ad.add ((l.length - 1) * 6)).off + 1, none⟩ = some (.int .i64 (lastPk l).dst) := c1
  replace c2 : w3.cell? ⟨(ad.add ((l.length - 1) * 6)).block, (ad.add ((l.length - 1) * 6)).off + 2, none⟩ = some (.int .i64 (lastPk l).pr) := c2
  replace c3 : w3.cell? ⟨(ad.add ((l.length - 1) * 6)).block, (ad.add ((l.length - 1) * 6)).off + 3, none⟩ = some (.int .i64 (lastPk l).born) := c3
  replace c4 : w3.cell? ⟨(ad.add ((l.length - 1) * 6)).block, (ad.add ((l.length - 1) * 6)).off + 4, none⟩ = some (.int .i64 (lastPk l).life) := c4
  replace c5 : w3.cell? ⟨(ad.add ((l.length - 1) * 6)).block, (ad.add ((l.length - 1) * 6)).off + 5, none⟩ = some (.string (lastPk l).data) := c5
  have g1 : (0 : Int) ≤ (l.length : Int) - 1 := by omega
  have g2 : (l.length : Int) - 1 < l.length := by omega
  have g3 : 1 ≤ (l.length : Int) := by omega
  have g4 : 1 ≤ l.length := by omega
  have g5 : IntKind.i64.wrap ((l.length : Int) - 1) = (l.length : Int) - 1 := by rw [IntKind.wrap_i64]; omega
  have g6 : ((l.length : Int) - 1).toNat = l.length - 1 := by omega
  have l0 : w.heap.size < w3.heap.size := by omega
  have l1 : w.heap.size + 1 < w3.heap.size := by omega
  have l2 : w.heap.size + 2 < w3.heap.size := by omega
  have n0 : ¬ w.heap.size = w3.heap.size := by omega
  have n1 : ¬ w.heap.size + 1 = w3.heap.size := by omega
  have n2 : ¬ w.heap.size + 2 = w3.heap.size := by omega
  obtain ⟨m, hm⟩ : ∃ m, l.dropLast = m := ⟨_, rfl⟩
  have HMD := Lib.hid hm
  have hml : m.length = l.length - 1 := by rw [← hm, List.length_dropLast]
  have HRM : Hid (RowAt Pk.cells 6 w (some ad) m) := by rw [← hm]; exact HR.out.row.dropLast
  have hz3b : w3.heap.size + 1 ≤ w3.heap.size + 1 + 1 := by omega
  have g7 : (l.length : Int) - 1 ≤ c := by have := HLE.out; omega
  clear hm
  set_option maxRecDepth 100000 in
  go_wp2_with (at_builtin; refine Own.append Pk.cells_len Pk.cells_one rfl _ _ 22 30 _ 56 rfl Try.underlying22 info30 rfl (by decide) (by decide) (.slice none 0 0) [] rfl (base := w3.heap.size + 1) (Own.nil _ _ _) ⟨w3.heap.size + 1, 0, none⟩ [lastPk l] 1 rfl (RowAt.at_block (blk_new (w3.alloc (.cells #[.int .i64 (lastPk l).id, .int .i64 (lastPk l).dst, .int .i64 (lastPk l).pr, .int .i64 (lastPk l).born, .int .i64 (lastPk l).life, .string (lastPk l).data] 30)) _ (by simp))) (by simp) (by simp) ?_; intro v1 wp hOp hgp _; (have hfm := hOp.form); obtain ⟨A5, c5', rfl, _, _⟩ := hfm; (have HBP := Lib.hid (((HB3.out.alloc (by omega) (.cells #[.int .i64 (lastPk l).id, .int .i64 (lastPk l).dst, .int .i64 (lastPk l).pr, .int .i64 (lastPk l).born, .int .i64 (lastPk l).life, .string (lastPk l).data] 30)).alloc (by simp; omega) (.cells #[.int .i64 (lastPk l).id, .int .i64 (lastPk l).dst, .int .i64 (lastPk l).pr, .int .i64 (lastPk l).born, .int .i64 (lastPk l).life, .string (lastPk l).data] 30)).grown hgp (by simp; omega) (fun k hk => by cases hk))); (have HG := Lib.hid hOp); (have hszp := hgp.size); clear q0 q1 p0 p1 p2 p3 p4 p5 r0 r1 f0 f1 c0 c1 c2 c3 c4 c5 hOp hgp; obtain ⟨⟨q0, q1⟩, ⟨p0, p1, p2, p3, p4, p5⟩, ⟨r0, r1, f0, f1⟩⟩ := putW_cells HBP.out)
  have hzp : w.heap.size + 3 ≤ wp.heap.size := by simp at hszp; omega
  have hzp3 : w3.heap.size + 1 ≤ wp.heap.size := by simp at hszp; omega
  have HLE := Lib.hid (show m.length ≤ c by have := HLE.out; omega)
  clear q0 q1 p0 p1 p2 p3 p4 p5 r0 r1 f0 f1 hszp g1 g2 g3 g4 g5 g6 g7 l0 l1 l2 n0 n1 n2
  rw [← hml]
  have hmb : m.length ≤ 64 := by omega
  have HML := Lib.hid hml
  clear hml hck hpos hcap
  have hcap : c ≤ 9223372036854775807 := HR.out.cap
  have HOI0 : Hid (OutI L wp.heap.size (m.take 0) (wp.alloc (.cells #[.int .i64 L, .slice none 0 0] 24))) := ⟨none, 0, blk_new wp _ rfl, Own.nil _ _ _⟩
  go_loopw [12] (fun v wr => ∃ i : Nat, v = .int .i64 i ∧ i ≤ m.length ∧ Hid (∀ j : Int, 0 ≤ j → j < i → abovep p.pr (gp m j) = false) ∧ Hid (Below wp.heap.size wp wr) ∧ Hid (OutI L wp.heap.size (m.take i) wr)) (fun v _ => (m.length - (intOf v)).toNat)
  case atStart => exact ⟨0, rfl, by omega, fun j a b => by omega, (Below.refl _ _).alloc (Nat.le_refl _) _, HOI0.out⟩
  case round =>
    obtain ⟨i, rfl, hle, HNA, HBT, HOI⟩ := hrel
    have HBW := Lib.hid (HBP.out.trans (HBT.out.mono hzp))
    obtain ⟨⟨q0, q1⟩, ⟨p0, p1, p2, p3, p4, p5⟩, ⟨r0, r1, f0, f1⟩⟩ := putW_cells HBW.out
    have HRW := Lib.hid (HRM.out.below (HW.out.trans (HBW.out.mono (by omega))))
    by_cases hlt : i < m.length
    · obtain ⟨ad', e', c0, c1, c2, c3, c4, c5⟩ := HRW.out.pk i (by omega) (by omega)
      cases e'
      rw [Int.toNat_natCast] at c0 c1 c2 c3 c4 c5
      have hli : decide ((i : Int) < m.length) = true := by simp; omega
      by_cases hp : (gp m i).pr ≤ p.pr
      · have hd : decide ((gp m i).pr ≤ p.pr) = true := by simp [hp]
        obtain ⟨A6, c6, h1, h2⟩ := HOI.out
        obtain ⟨out, hout⟩ : ∃ out, m.take i = out := ⟨_, rfl⟩
        rw [hout] at h1 h2
        have HOL := Lib.hid (show out.length = i by rw [← hout, List.length_take]; omega)
        have HOUT := Lib.hid hout
        have o1 : wr.cell? ⟨wp.heap.size, 1, none⟩ = some (.slice A6 out.length c6) := blk_cell h1 1
        have o2 : wr.frozen? ⟨wp.heap.size, 1, none⟩ = false := blk_free h1 1
        have l1 : wp.heap.size < wr.heap.size := blk_lt h1
        have n1 : ¬ wp.heap.size = wr.heap.size := by omega
        have H1 := Lib.hid h1
        have H2 := Lib.hid h2
        have HIN := Lib.hid (show (out.length + 1) * 56 ≤ 140737488355328 by have := HOL.out; omega)
        clear h1 h2 hout
        have l2 : (ad.add (i * 6)).block < wr.heap.size := cell_lt c0
        have n2 : ¬ (ad.add (i * 6)).block = wr.heap.size := by omega
        have g1 : (0 : Int) ≤ i := by omega
        have g2 : (i : Int) < m.length := by omega
        go_wp2_with fail
        go_quiet (fail)
        go_wp2_with fail
        obtain ⟨wq, hwq⟩ : ∃ wq, wr.drewN nq = wq := ⟨_, rfl⟩
        rw [hwq]
        have hce : ∀ a, wq.cell? a = wr.cell? a := fun a => by rw [← hwq]; rfl
        have hcf : ∀ a, wq.frozen? a = wr.frozen? a := fun a => by rw [← hwq]; rfl
        have hsq : wq.heap.size = wr.heap.size := by rw [← hwq]; rfl
        rw [← hce] at o1 c0 c1 c2 c3 c4 c5
        rw [← hcf] at o2
        rw [← hsq] at n1 n2 l1
        replace H1 : Hid (wq.heap[wp.heap.size]? = some (.cells #[.int .i64 L, .slice A6 out.length c6] 24 (0, 0))) := by rw [← hwq]; exact H1
        replace H2 : Hid (Own Pk.cells 6 wq wp.heap.size 30 (.slice A6 out.length c6) out) := by rw [← hwq]; exact H2
        replace HBT : Hid (Below wp.heap.size wp wq) := by rw [← hwq]; exact blw_drewN HBT.out _
        clear hwq hce hcf hsq l2 q0 q1 p0 p1 p2 p3 p4 p5 r0 r1 f0 f1 HBW HRW
        go_region_law (refine Own.append_step Pk.cells_len Pk.cells_one rfl _ _ 22 30 _ 56 rfl Try.underlying22 info30 rfl (by decide) (by decide) (.slice A6 out.length c6) out (by simp [Act.eval]) (base := wp.heap.size) ((H2.out.alloc _).drew) ⟨wq.heap.size, 0, none⟩ [gp m i] 1 (by simp [Act.eval]) (RowAt.new wq _ _ _ rfl) (by simp; omega) HIN.out ?_; intro v1 w5 hO5 hg5 _; (have hfm := hO5.form); obtain ⟨A7, c7, rfl, _, _⟩ := hfm; (have hAP := out_app (n := out.length + 1) H1.out H2.out (((Below.refl _ _).alloc (Nat.le_refl _) _).drew) hO5 hg5 (by simp)); (have HAP := Lib.hid hAP); (have u2 : w5.cell? ⟨wp.heap.size, 1, none⟩ = some (.slice A6 out.length c6) := blk_cell hAP.2.2.2.2 1); (have u3 : w5.frozen? ⟨wp.heap.size, 1, none⟩ = false := blk_free hAP.2.2.2.2 1); clear hO5 hg5 hAP)
        all_goals
          go_wp2
          go_roundw
          case rel =>
            have ht : m.take (i + 1) = out ++ [gp m i] := by rw [take_next hlt, HOUT.out]
            exact ⟨i + 1, by simp, by omega, fun j a b => by
              by_cases hj : j = i
              · subst hj; simp [abovep]; omega
              · exact HNA.out j a (by omega), HAP.out.2.2.1 _ _ HBT.out (by omega) (by omega) (by omega), by rw [ht]; exact ⟨A7, c7, HAP.out.1, HAP.out.2.1⟩⟩
          case measure => simp [intOf]; omega
      · have hd : decide ((gp m i).pr ≤ p.pr) = false := by simp; omega
        have g1 : (0 : Int) ≤ i := by omega
        have g2 : (i : Int) < m.length := by omega
        go_wp2_with fail
        go_quiet (fail)
        obtain ⟨wq, hwq⟩ : ∃ wq, wr.drewN nq = wq := ⟨_, rfl⟩
        rw [hwq]
        replace HBT : Hid (Below wp.heap.size wp wq) := by rw [← hwq]; exact blw_drewN HBT.out _
        replace HOI : Hid (OutI L wp.heap.size (m.take i) wq) := by rw [← hwq]; exact HOI
        clear q0 q1 p0 p1 p2 p3 p4 p5 r0 r1 f0 f1 HBW HRW hwq
        have HBW := Lib.hid (HBP.out.trans (HBT.out.mono hzp))
        obtain ⟨⟨q0, q1⟩, ⟨p0, p1, p2, p3, p4, p5⟩, ⟨r0, r1, f0, f1⟩⟩ := putW_cells HBW.out
        obtain ⟨A6, c6, h1, h2⟩ := HOI.out
        obtain ⟨out, hout⟩ : ∃ out, m.take i = out := ⟨_, rfl⟩
        rw [hout] at h1 h2
        have HOL := Lib.hid (show out.length = i by rw [← hout, List.length_take]; omega)
        have HOUT := Lib.hid hout
        have o0 : wq.cell? ⟨wp.heap.size, 0, none⟩ = some (.int .i64 L) := blk_cell h1 0
        have o1 : wq.cell? ⟨wp.heap.size, 1, none⟩ = some (.slice A6 out.length c6) := blk_cell h1 1
        have o2 : wq.frozen? ⟨wp.heap.size, 1, none⟩ = false := blk_free h1 1
        have l1 : wp.heap.size < wq.heap.size := blk_lt h1
        have n1 : ¬ wp.heap.size = wq.heap.size := by omega
        have H1 := Lib.hid h1
        have H2 := Lib.hid h2
        have HIN := Lib.hid (show (out.length + 1) * 56 ≤ 140737488355328 by have := HOL.out; omega)
        clear h1 h2 hout
        set_option maxRecDepth 100000 in
        go_wp2_with (at_builtin; refine Own.append Pk.cells_len Pk.cells_one rfl _ _ 22 30 _ 56 rfl Try.underlying22 info30 rfl (by decide) (by decide) (.slice A6 out.length c6) out rfl (base := wp.heap.size) (H2.out.alloc _) ⟨wq.heap.size, 0, none⟩ [p] 1 rfl (RowAt.new wq _ _ _ rfl) (by simp; omega) HIN.out ?_; intro v1 w5 hO5 hg5 _; (have hfm := hO5.form); obtain ⟨A7, c7, rfl, _, _⟩ := hfm; (have hAP := out_app (n := out.length + 1) H1.out H2.out ((Below.refl _ _).alloc (Nat.le_refl _) _) hO5 hg5 (by simp)); (have HAP := Lib.hid hAP); (have u2 : w5.cell? ⟨wp.heap.size, 1, none⟩ = some (.slice A6 out.length c6) := blk_cell hAP.2.2.2.2 1); (have u3 : w5.frozen? ⟨wp.heap.size, 1, none⟩ = false := blk_free hAP.2.2.2.2 1); clear hO5 hg5 hAP)
        obtain ⟨w8, hw8⟩ : ∃ w8, w5.setCell ⟨wp.heap.size, 1, none⟩ (.slice A7 (out.length + 1) c7) = w8 := ⟨_, rfl⟩
        rw [hw8] at HAP ⊢
        have HB8 := Lib.hid (HAP.out.2.2.1 _ _ HBT.out (by omega) (by omega) (by omega))
        have H81 := Lib.hid HAP.out.1
        have H82 := Lib.hid HAP.out.2.1
        clear hw8 HAP u2 u3 q0 q1 p0 p1 p2 p3 p4 p5 r0 r1 f0 f1 o0 o1 o2 l1 n1 HBW H1 H2
        obtain ⟨out2, ho2⟩ : ∃ o, out ++ [p] = o := ⟨_, rfl⟩
        rw [ho2] at H81 H82
        have HOL2 := Lib.hid (show out2.length = i + 1 by rw [← ho2, List.length_append, HOL.out]; rfl)
        have HO2 := Lib.hid ho2
        clear ho2
        have o1 : w8.cell? ⟨wp.heap.size, 1, none⟩ = some (.slice A7 out2.length c7) := blk_cell H81.out 1
        have o2 : w8.frozen? ⟨wp.heap.size, 1, none⟩ = false := blk_free H81.out 1
        have HSR := Lib.hid ((HRM.out.below (HW.out.trans ((HBP.out.trans (HB8.out.mono hzp)).mono (by omega)))).drop i)
        have HLN := Lib.hid (show (out2.length + (m.drop i).length) * 56 ≤ 140737488355328 by rw [HOL2.out, List.length_drop]; omega)
        have hlc : (i : Int) ≤ c := by have := HLE.out; omega
        have hnc : ¬ c = i := by have := HLE.out; omega
        go_region_law (refine Own.append_step Pk.cells_len Pk.cells_one rfl _ _ 22 30 _ 56 rfl Try.underlying22 info30 rfl (by decide) (by decide) (.slice A7 out2.length c7) out2 (by simp [Act.eval]) (base := wp.heap.size) (H82.out.drew) (ad.add (i * 6)) (m.drop i) (c - i) (by simp [Act.eval]) HSR.out (by have := HB8.out.size; simpa using this) HLN.out ?_; intro v1 w9 hO9 hg9 _; obtain ⟨out3, ho3⟩ : ∃ o, out2 ++ m.drop i = o := ⟨_, rfl⟩; rw [ho3] at hO9; (have HO3 := Lib.hid ho3); (have hfm := hO9.form); obtain ⟨A9, c9, rfl, _, _⟩ := hfm; (have hAP := out_app (n := out3.length) H81.out H82.out ((Below.refl _ _).drew) hO9 hg9 rfl); (have HAP := Lib.hid hAP); (have u2 : w9.cell? ⟨wp.heap.size, 1, none⟩ = some (.slice A7 out2.length c7) := blk_cell hAP.2.2.2.2 1); (have u3 : w9.frozen? ⟨wp.heap.size, 1, none⟩ = false := blk_free hAP.2.2.2.2 1); clear hO9 hg9 hAP ho3)
        have HPOS := Lib.hid (show insPos p.pr m = i by
          have hx : fidx (abovep p.pr) m = i := fidx_hit (by omega) (by omega) (by simp [abovep]; omega) HNA.out
          unfold insPos; rw [hx, if_neg (by omega), Int.toNat_natCast])
        all_goals
          obtain ⟨w10, hw10⟩ : ∃ w10, w9.setCell ⟨wp.heap.size, 1, none⟩ (.slice A9 out3.length c9) = w10 := ⟨_, rfl⟩
          rw [hw10] at HAP ⊢
          have HB10 := Lib.hid (HAP.out.2.2.1 _ _ HB8.out HB8.out.size (by omega) (by omega))
          have H101 := Lib.hid HAP.out.1
          have H102 := Lib.hid HAP.out.2.1
          have v0 : w10.cell? ⟨wp.heap.size, 0, none⟩ = some (.int .i64 L) := blk_cell H101.out 0
          have v1 : w10.cell? ⟨wp.heap.size, 1, none⟩ = some (.slice A9 out3.length c9) := blk_cell H101.out 1
          have HBX := Lib.hid (HBP.out.trans (HB10.out.mono hzp))
          obtain ⟨⟨q0, q1⟩, ⟨p0, p1, p2, p3, p4, p5⟩, ⟨r0, r1, f0, f1⟩⟩ := putW_cells HBX.out
          clear hw10 HAP u2 u3 o1 o2 q0 q1 p0 p1 p2 p3 p4 p5
          have hll : wp.heap.size < w10.heap.size := blk_lt H101.out
          go_wp2
          refine bodyPost_ret (v := .tuple #[.agg #[.int .i64 L, .slice A9 out3.length c9], .slice A5 1 c5', .int .i64 0]) (by simp [results, Try.results23, go_sem, r0, r1]) rfl ⟨?_, ?_⟩
          · refine PutAns.good (A2 := A5) (c2 := c5') (G := [lastPk l]) HE.out ?_ (by rw [if_pos H4.out]) ((H102.out.setBelow (by simp; omega) _).setBelow (by simp; omega) _).pkAt (((HG.out.below HB10.out (Nat.le_refl _)).setBelow (by simp; omega) _).setBelow (by simp; omega) _).pkAt (H102.out.fresh (by omega)) (HG.out.fresh (by omega))
            rw [if_pos H4.out, HMD.out, ← HO3.out, ← HO2.out, ← HOUT.out, List.append_assoc]
            unfold ins
            rw [HPOS.out]; rfl
          · exact ((HW.out.trans (HBX.out.mono (by omega))).setCell (by simp; omega) _).setCell (by simp; omega) _
    · have hli : decide ((i : Int) < m.length) = false := by simp; omega
      obtain rfl : i = m.length := by omega
      go_wp2_with fail
      go_quiet (fail)
      obtain ⟨wq, hwq⟩ : ∃ wq, wr.drewN nq = wq := ⟨_, rfl⟩
      rw [hwq]
      replace HBT : Hid (Below wp.heap.size wp wq) := by rw [← hwq]; exact blw_drewN HBT.out _
      replace HOI : Hid (OutI L wp.heap.size (m.take m.length) wq) := by rw [← hwq]; exact HOI
      clear q0 q1 p0 p1 p2 p3 p4 p5 r0 r1 f0 f1 HBW HRW hwq
      have HBW := Lib.hid (HBP.out.trans (HBT.out.mono hzp))
      obtain ⟨⟨q0, q1⟩, ⟨p0, p1, p2, p3, p4, p5⟩, ⟨r0, r1, f0, f1⟩⟩ := putW_cells HBW.out
      obtain ⟨A6, c6, h1, h2⟩ := HOI.out
      obtain ⟨out, hout⟩ : ∃ out, m.take m.length = out := ⟨_, rfl⟩
      rw [hout] at h1 h2
      have HOL := Lib.hid (show out.length = m.length by rw [← hout, List.take_length])
      have HOUT := Lib.hid hout
      have o0 : wq.cell? ⟨wp.heap.size, 0, none⟩ = some (.int .i64 L) := blk_cell h1 0
      have o1 : wq.cell? ⟨wp.heap.size, 1, none⟩ = some (.slice A6 out.length c6) := blk_cell h1 1
      have o2 : wq.frozen? ⟨wp.heap.size, 1, none⟩ = false := blk_free h1 1
      have l1 : wp.heap.size < wq.heap.size := blk_lt h1
      have n1 : ¬ wp.heap.size = wq.heap.size := by omega
      have H1 := Lib.hid h1
      have H2 := Lib.hid h2
      have HIN := Lib.hid (show (out.length + 1) * 56 ≤ 140737488355328 by have := HOL.out; omega)
      clear h1 h2 hout
      set_option maxRecDepth 100000 in
      go_wp2_with (at_builtin; refine Own.append Pk.cells_len Pk.cells_one rfl _ _ 22 30 _ 56 rfl Try.underlying22 info30 rfl (by decide) (by decide) (.slice A6 out.length c6) out rfl (base := wp.heap.size) (H2.out.alloc _) ⟨wq.heap.size, 0, none⟩ [p] 1 rfl (RowAt.new wq _ _ _ rfl) (by simp; omega) HIN.out ?_; intro v1 w5 hO5 hg5 _; (have hfm := hO5.form); obtain ⟨A7, c7, rfl, _, _⟩ := hfm; (have hAP := out_app (n := out.length + 1) H1.out H2.out ((Below.refl _ _).alloc (Nat.le_refl _) _) hO5 hg5 (by simp)); (have HAP := Lib.hid hAP); (have u2 : w5.cell? ⟨wp.heap.size, 1, none⟩ = some (.slice A6 out.length c6) := blk_cell hAP.2.2.2.2 1); (have u3 : w5.frozen? ⟨wp.heap.size, 1, none⟩ = false := blk_free hAP.2.2.2.2 1); clear hO5 hg5 hAP)
      obtain ⟨w8, hw8⟩ : ∃ w8, w5.setCell ⟨wp.heap.size, 1, none⟩ (.slice A7 (out.length + 1) c7) = w8 := ⟨_, rfl⟩
      rw [hw8] at HAP ⊢
      have HB8 := Lib.hid (HAP.out.2.2.1 _ _ HBT.out (by omega) (by omega) (by omega))
      have H81 := Lib.hid HAP.out.1
      have H82 := Lib.hid HAP.out.2.1
      clear hw8 HAP u2 u3 q0 q1 p0 p1 p2 p3 p4 p5 r0 r1 f0 f1 o0 o1 o2 l1 n1 HBW H1 H2
      obtain ⟨out2, ho2⟩ : ∃ o, out ++ [p] = o := ⟨_, rfl⟩
      rw [ho2] at H81 H82
      have HOL2 := Lib.hid (show out2.length = m.length + 1 by rw [← ho2, List.length_append, HOL.out]; rfl)
      have HO2 := Lib.hid ho2
      clear ho2
      have o1 : w8.cell? ⟨wp.heap.size, 1, none⟩ = some (.slice A7 out2.length c7) := blk_cell H81.out 1
      have o2 : w8.frozen? ⟨wp.heap.size, 1, none⟩ = false := blk_free H81.out 1
      have hle8 : out2.length ≤ c7 := by
        obtain ⟨A', c', e', h1, h2⟩ := H82.out.form
        cases e'; exact h1
      obtain ⟨i0, hi0, hi6⟩ := info30'
      have HZ := fun (B : Option Addr) (cc : Nat) (W : World) (ty : TypeId) => run_append_zero (P := Try.prog) W 22 ty 30 A7 B out2.length c7 cc i0 Try.underlying22 hi0 hle8
      have HAP := Lib.hid (out_app (w5 := w8) (n := out2.length) H81.out H82.out (Below.refl _ _) H82.out ⟨rfl, rfl, rfl, Nat.le_refl _, fun _ _ _ => rfl⟩ rfl)
      have HPOS := Lib.hid (show insPos p.pr m = m.length by
        have hx : fidx (abovep p.pr) m = -1 := fidx_miss HNA.out
        unfold insPos; rw [hx, if_pos (by omega)])
      have hlc : (m.length : Int) ≤ c := by have := HLE.out; omega
      have HCAP := Lib.hid hcap
      by_cases hcl : c = m.length
      · have hz : m.length - m.length = 0 := by omega
        go_region_law (refine step_append_is rfl _ _ 22 22 rfl (.slice A7 out2.length c7) (.slice (some ad) 0 0) (by simp [Act.eval]) (by simp [Act.eval]) (HZ (some ad) 0 _ _) ?_)
        all_goals
          obtain ⟨w10, hw10⟩ : ∃ w10, (w8.setCell ⟨wp.heap.size, 1, none⟩ (.slice A7 out2.length c7)).drew = w10 := ⟨_, rfl⟩
          rw [hw10]
          have HB10 : Hid (Below wp.heap.size wp w10) := by rw [← hw10]; exact (HAP.out.2.2.1 _ _ HB8.out HB8.out.size (by omega) (by omega)).drew
          have H101 : Hid (w10.heap[wp.heap.size]? = some (.cells #[.int .i64 L, .slice A7 out2.length c7] 24 (0, 0))) := by rw [← hw10]; exact HAP.out.1
          have H102 : Hid (Own Pk.cells 6 w10 wp.heap.size 30 (.slice A7 out2.length c7) out2) := by rw [← hw10]; exact HAP.out.2.1.drew
          have v0 : w10.cell? ⟨wp.heap.size, 0, none⟩ = some (.int .i64 L) := blk_cell H101.out 0
          have v1 : w10.cell? ⟨wp.heap.size, 1, none⟩ = some (.slice A7 out2.length c7) := blk_cell H101.out 1
          have HBX := Lib.hid (HBP.out.trans (HB10.out.mono hzp))
          obtain ⟨⟨q0, q1⟩, ⟨p0, p1, p2, p3, p4, p5⟩, ⟨r0, r1, f0, f1⟩⟩ := putW_cells HBX.out
          clear hw10 HAP o1 o2 q0 q1 p0 p1 p2 p3 p4 p5
          have hll : wp.heap.size < w10.heap.size := blk_lt H101.out
          go_wp2
          refine bodyPost_ret (v := .tuple #[.agg #[.int .i64 L, .slice A7 out2.length c7], .slice A5 1 c5', .int .i64 0]) (by simp [results, Try.results23, go_sem, r0, r1]) rfl ⟨?_, ?_⟩
          · refine PutAns.good (A2 := A5) (c2 := c5') (G := [lastPk l]) HE.out ?_ (by rw [if_pos H4.out]) ((H102.out.setBelow (by simp; omega) _).setBelow (by simp; omega) _).pkAt (((HG.out.below HB10.out (Nat.le_refl _)).setBelow (by simp; omega) _).setBelow (by simp; omega) _).pkAt (H102.out.fresh (by omega)) (HG.out.fresh (by omega))
            rw [if_pos H4.out, HMD.out, ← HO2.out, ← HOUT.out]
            unfold ins
            rw [HPOS.out, List.drop_length]
          · exact ((HW.out.trans (HBX.out.mono (by omega))).setCell (by simp; omega) _).setCell (by simp; omega) _
      · have hz : m.length - m.length = 0 := by omega
        go_region_law (refine step_append_is rfl _ _ 22 22 rfl (.slice A7 out2.length c7) (.slice (some (ad.add (m.length * 6))) 0 (c - m.length)) (by simp [Act.eval]) (by simp [Act.eval]) (HZ (some (ad.add (m.length * 6))) (c - m.length) _ _) ?_)
        all_goals
          obtain ⟨w10, hw10⟩ : ∃ w10, (w8.setCell ⟨wp.heap.size, 1, none⟩ (.slice A7 out2.length c7)).drew = w10 := ⟨_, rfl⟩
          rw [hw10]
          have HB10 : Hid (Below wp.heap.size wp w10) := by rw [← hw10]; exact (HAP.out.2.2.1 _ _ HB8.out HB8.out.size (by omega) (by omega)).drew
          have H101 : Hid (w10.heap[wp.heap.size]? = some (.cells #[.int .i64 L, .slice A7 out2.length c7] 24 (0, 0))) := by rw [← hw10]; exact HAP.out.1
          have H102 : Hid (Own Pk.cells 6 w10 wp.heap.size 30 (.slice A7 out2.length c7) out2) := by rw [← hw10]; exact HAP.out.2.1.drew
          have v0 : w10.cell? ⟨wp.heap.size, 0, none⟩ = some (.int .i64 L) := blk_cell H101.out 0
          have v1 : w10.cell? ⟨wp.heap.size, 1, none⟩ = some (.slice A7 out2.length c7) := blk_cell H101.out 1
          have HBX := Lib.hid (HBP.out.trans (HB10.out.mono hzp))
          obtain ⟨⟨q0, q1⟩, ⟨p0, p1, p2, p3, p4, p5⟩, ⟨r0, r1, f0, f1⟩⟩ := putW_cells HBX.out
          clear hw10 HAP o1 o2 q0 q1 p0 p1 p2 p3 p4 p5
          have hll : wp.heap.size < w10.heap.size := blk_lt H101.out
          go_wp2
          refine bodyPost_ret (v := .tuple #[.agg #[.int .i64 L, .slice A7 out2.length c7], .slice A5 1 c5', .int .i64 0]) (by simp [results, Try.results23, go_sem, r0, r1]) rfl ⟨?_, ?_⟩
          · refine PutAns.good (A2 := A5) (c2 := c5') (G := [lastPk l]) HE.out ?_ (by rw [if_pos H4.out]) ((H102.out.setBelow (by simp; omega) _).setBelow (by simp; omega) _).pkAt (((HG.out.below HB10.out (Nat.le_refl _)).setBelow (by simp; omega) _).setBelow (by simp; omega) _).pkAt (H102.out.fresh (by omega)) (HG.out.fresh (by omega))
            rw [if_pos H4.out, HMD.out, ← HO2.out, ← HOUT.out]
            unfold ins
            rw [HPOS.out, List.drop_length]
          · exact ((HW.out.trans (HBX.out.mono (by omega))).setCell (by simp; omega) _).setCell (by simp; omega) _
end Go.Proofs.Ytckanomabhbkaaa
