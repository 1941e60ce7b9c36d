/- The reference's Expire, walked. -/
import Derived.Test.YtckanomabhbkaaaYD
import Derived.Test.YtckanomabhbkaaaQX
namespace Go.Proofs.Ytckanomabhbkaaa
open Go.RowKit Go.Shelf
set_option linter.unusedVariables false
/-- What the reference's Expire keeps: the queue that is made lies at O, the stale ones in a slot. -/
def ExI (L : Int) (O base : Nat) (G Q : List Pk) (A7 : Option Addr) (c7 : Nat) (W : World) : Prop :=
  ∃ A6 c6, W.heap[O]? = some (.cells #[.int .i64 L, .slice A6 Q.length c6] 24 (0, 0)) ∧ Own Pk.cells 6 W base 30 (.slice A6 Q.length c6) Q ∧ Own Pk.cells 6 W base 30 (.slice A7 G.length c7) G ∧ ∀ b, ob A6 = some b → ob A7 ≠ some b
theorem exi_gone {wr V w5 : World} {L : Int} {O base : Nat} {G G' Q : List Pk} {A7 A8 : Option Addr} {c7 c8 : Nat} (h : ExI L O base G Q A7 c7 wr) (hV : Below wr.heap.size wr V) (hO : Own Pk.cells 6 w5 base 30 (.slice A8 G'.length c8) G') (hg : V.grownBy w5 (Value.slice A7 G.length c7).ownBlock)
    (hat : (Value.slice A8 G'.length c8).ownBlock = (Value.slice A7 G.length c7).ownBlock ∨ (Value.slice A8 G'.length c8).ownBlock = some V.heap.size) : ExI L O base G' Q A8 c8 w5 := by
  obtain ⟨A6, c6, h1, h2, h3, h4⟩ := h
  have hkeep : ∀ b x, wr.heap[b]? = some x → (Value.slice A7 G.length c7).ownBlock ≠ some b → w5.heap[b]? = some x := fun b x hx h2 => by
    have hl := blk_lt hx
    exact (hg.block b (Nat.lt_of_lt_of_le hl hV.size) (fun e => h2 e.symm)).trans ((hV.block b hl).trans hx)
  have h2' : Own Pk.cells 6 w5 base 30 (.slice A6 Q.length c6) Q := (h2.below hV (Nat.le_refl _)).block fun b hb => by
    have hl := (h2.lt hb).2
    rw [ob_eq] at hb
    exact hg.block b (Nat.lt_of_lt_of_le hl hV.size) (fun e => h4 b hb (by rw [← ob_eq A7 G.length c7]; exact e.symm))
  refine ⟨A6, c6, hkeep O _ h1 (h3.ne h1 (by decide)), h2', hO, fun b hb e => ?_⟩
  rcases hat with h | h
  · rw [ob_eq, ob_eq] at h
    rw [h] at e
    exact h4 b hb e
  · rw [ob_eq] at h
    rw [h] at e
    cases e
    have := (h2.lt (b := V.heap.size) (by rw [ob_eq]; exact hb)).2
    have := hV.size
    omega
theorem exi_out {wr V w5 : World} {L : Int} {O base n : Nat} {G Q Q' : List Pk} {A6 A7 A8 : Option Addr} {c6 c7 c8 : Nat} (h1 : wr.heap[O]? = some (.cells #[.int .i64 L, .slice A6 Q.length c6] 24 (0, 0))) (h2 : Own Pk.cells 6 wr base 30 (.slice A6 Q.length c6) Q) (h3 : Own Pk.cells 6 wr base 30 (.slice A7 G.length c7) G) (h4 : ∀ b, ob A6 = some b → ob A7 ≠ some b) (hV : Below wr.heap.size wr V) (hO : Own Pk.cells 6 w5 base 30 (.slice A8 Q'.length c8) Q') (hg : V.grownBy w5 (Value.slice A6 Q.length c6).ownBlock)
    (hat : (Value.slice A8 Q'.length c8).ownBlock = (Value.slice A6 Q.length c6).ownBlock ∨ (Value.slice A8 Q'.length c8).ownBlock = some V.heap.size) (hn : n = Q'.length) : ExI L O base G Q' A7 c7 (w5.setCell ⟨O, 1, none⟩ (.slice A8 n c8)) := by
  have hA := out_app h1 h2 hV hO hg hn
  have h3' : Own Pk.cells 6 w5 base 30 (.slice A7 G.length c7) G := (h3.below hV (Nat.le_refl _)).block fun b hb => by
    have hl := (h3.lt hb).2
    rw [ob_eq] at hb
    exact hg.block b (Nat.lt_of_lt_of_le hl hV.size) (fun e => h4 b (by rw [← ob_eq A6 Q.length c6]; exact e.symm) hb)
  refine ⟨A8, c8, hA.1, hA.2.1, h3'.setCell (h3'.ne hA.2.2.2.2 (by decide)) _, fun b hb e => ?_⟩
  rcases hat with h | h
  · rw [ob_eq, ob_eq] at h
    rw [h] at hb
    exact h4 b hb e
  · rw [ob_eq] at h
    rw [h] at hb
    cases hb
    have := (h3.lt (b := V.heap.size) (by rw [ob_eq]; exact e)).2
    have := hV.size
    omega
set_option maxHeartbeats 1600000 in
theorem refExpire_bad (L : Int) (A : Option Addr) (c : Nat) (l : List Pk) (s : Int) (w : World) (hr : PkAt w A c l) (h1 : chk L l ≠ 0) :
    Calls Try.prog 43 #[.agg #[.int .i64 L, .slice A l.length c], .int .i64 s] w fun e w' => ExpAns w.heap.size w' e L l s ∧ Below w.heap.size w w' := by
  have HR := Lib.hid hr
  have hu24 := Try.underlying24
  have HW := Lib.hid (srvW_below w L A c l)
  have H1 := Lib.hid h1
  have b1 : (chk L l != 0) = true := by simp [h1]
  clear hr h1
  go_enter Try.func43, Try.ntmps43
  go_wp2_with fail
  refine (refCheck_any L A c l _ (HR.out.row.below HW.out)).mono ?_
  rintro e w1 ⟨rfl, hb1⟩
  have HB1 := Lib.hid (show Below (w.heap.size + 2) (srvW w L A c l) w1 from by have h := hb1; rw [srvW_size] at h; exact h)
  obtain ⟨⟨q0, q1⟩, r0, r1, f0, f1⟩ := srv_cells (srvW_blocks HB1.out)
  have HX := Lib.hid (show Below w.heap.size w ((w1.setCell ⟨w.heap.size + 1, 0, none⟩ (.int .i64 L)).setCell ⟨w.heap.size + 1, 1, none⟩ (.slice A l.length c)) from ((HW.out.trans (HB1.out.mono (by omega))).setCell (by simp) _).setCell (by simp) _)
  clear hb1
  go_wp2
  refine bodyPost_ret (v := .tuple #[.agg #[.int .i64 L, .slice A l.length c], .slice none 0 0]) (by simp [results, Try.results43, go_sem, r0, r1]) rfl ⟨ExpAns.bad H1.out (HR.out.below HX.out), HX.out⟩
set_option maxHeartbeats 3200000 in
theorem refExpire_good (L : Int) (A : Option Addr) (c : Nat) (l : List Pk) (s : Int) (w : World) (hr : PkAt w A c l) (h1 : chk L l = 0) :
    Calls Try.prog 43 #[.agg #[.int .i64 L, .slice A l.length c], .int .i64 s] w fun e w' => ExpAns w.heap.size w' e L l s ∧ Below w.heap.size w w' := by
  have HR := Lib.hid hr
  have hu24 := Try.underlying24
  have hu30 := Try.underlying30
  have hcap := hr.cap
  have hle := hr.le
  have HW := Lib.hid (srvW_below w L A c l)
  have H1 := Lib.hid h1
  have hck := chk_ok h1
  have hl64 : l.length ≤ 64 := by omega
  have b1 : (chk L l != 0) = false := by simp [h1]
  clear hr h1 hck
  go_enter Try.func43, Try.ntmps43
  go_wp2_with fail
  refine (refCheck_any L A c l _ (HR.out.row.below HW.out)).mono ?_
  rintro e w1 ⟨rfl, hb1⟩
  have HB1 := Lib.hid (show Below (w.heap.size + 2) (srvW w L A c l) w1 from by have h := hb1; rw [srvW_size] at h; exact h)
  obtain ⟨⟨q0, q1⟩, r0, r1, f0, f1⟩ := srv_cells (srvW_blocks HB1.out)
  have hz1 : w.heap.size + 2 ≤ w1.heap.size := by have := HB1.out.size; rwa [srvW_size] at this
  clear hb1
  go_wp2
  have HOI0 : Hid (ExI L w1.heap.size w1.heap.size (kept (freshP s) (l.take 0)) (kept (staleP s) (l.take 0)) none 0 (w1.alloc (.cells #[.int .i64 L, .slice none 0 0] 24))) := ⟨none, 0, blk_new w1 _ rfl, Own.nil _ _ _, Own.nil _ _ _, fun b h => by simp [ob] at h⟩
  clear q0 q1 r0 r1 f0 f1
  go_loopw [7, 8] (fun u v wr => ∃ (i : Nat) (A7 : Option Addr) (c7 : Nat), v = .int .i64 i ∧ u = .slice A7 (kept (freshP s) (l.take i)).length c7 ∧ i ≤ l.length ∧ Hid (Below w1.heap.size w1 wr) ∧ Hid (ExI L w1.heap.size w1.heap.size (kept (freshP s) (l.take i)) (kept (staleP s) (l.take i)) A7 c7 wr)) (fun u v _ => (l.length - (intOf v)).toNat)
  case atStart => exact ⟨0, none, 0, rfl, rfl, by omega, (Below.refl _ _).alloc (Nat.le_refl _) _, HOI0.out⟩
  case round =>
    obtain ⟨i, A7, c7, rfl, rfl, hil, HBT, HEX⟩ := hrel
    have HBW := Lib.hid (HB1.out.trans (HBT.out.mono hz1))
    obtain ⟨⟨q0, q1⟩, r0, r1, f0, f1⟩ := srv_cells (srvW_blocks HBW.out)
    have HRW := Lib.hid (HR.out.row.below (HW.out.trans (HBW.out.mono (by omega))))
    obtain ⟨A6, c6, h1, h2, h3, h4⟩ := HEX.out
    obtain ⟨Q, hQ⟩ : ∃ Q, kept (staleP s) (l.take i) = Q := ⟨_, rfl⟩
    obtain ⟨G, hG⟩ : ∃ G, kept (freshP s) (l.take i) = G := ⟨_, rfl⟩
    rw [hG] at h3
    rw [hQ] at h1 h2
    rw [hG, hQ] at HEX
    rw [hG]
    have HQL := Lib.hid (show Q.length ≤ i by rw [← hQ]; exact kept_le _ _ _)
    have HGL := Lib.hid (show G.length ≤ i by rw [← hG]; exact kept_le _ _ _)
    have o0 : wr.cell? ⟨w1.heap.size, 0, none⟩ = some (.int .i64 L) := blk_cell h1 0
    have o1 : wr.cell? ⟨w1.heap.size, 1, none⟩ = some (.slice A6 Q.length c6) := blk_cell h1 1
    have o2 : wr.frozen? ⟨w1.heap.size, 1, none⟩ = false := blk_free h1 1
    have l1 : w1.heap.size < wr.heap.size := blk_lt h1
    have n1 : ¬ w1.heap.size = wr.heap.size := by omega
    have n2 : ¬ w.heap.size = wr.heap.size := by omega
    have n3 : ¬ w1.heap.size = wr.heap.size + 1 := by omega
    have H1' := Lib.hid h1
    have H2 := Lib.hid h2
    have H3 := Lib.hid h3
    have H4 := Lib.hid h4
    have HQ := Lib.hid hQ
    have HG := Lib.hid hG
    clear h1 h2 h3 h4 hQ hG
    by_cases hlt : i < l.length
    · obtain ⟨ad, e', c0, c1, c2, c3, c4, c5⟩ := HRW.out.pk i (by omega) (by omega)
      subst e'
      rw [Int.toNat_natCast] at c0 c1 c2 c3 c4 c5
      have hli : decide ((i : Int) < l.length) = true := by simp; omega
      have g1 : (0 : Int) ≤ i := by omega
      have g2 : (i : Int) < l.length := by omega
      have HKS := Lib.hid (kept_next (p := staleP s) hlt)
      have HKF := Lib.hid (kept_next (p := freshP s) hlt)
      rw [HQ.out] at HKS
      rw [HG.out] at HKF
      by_cases hp : staleB (gp l i) s = true
      · have b0 : decide (0 ≤ s) = true := by unfold staleB at hp; simp at hp; simp [hp.1]
        have b2 : decide ((gp l i).life ≤ wrap64 (s - (gp l i).born)) = true := by unfold staleB at hp; simp at hp; simp [hp.2]
        have HQN := Lib.hid (show kept (staleP s) (l.take (i + 1)) = Q by rw [HKS.out, if_pos (by simp [staleP, hp]), List.append_nil])
        have HGN := Lib.hid (show kept (freshP s) (l.take (i + 1)) = G ++ [gp l i] by rw [HKF.out, if_neg (by simp [freshP, hp])])
        clear hp
        go_wp2_with (at_builtin; refine Own.append Pk.cells_len Pk.cells_one rfl _ _ 22 30 _ 56 rfl Try.underlying22 info30 rfl (by decide) (by decide) (.slice A7 G.length c7) G rfl (base := w1.heap.size) ((H3.out.alloc _).alloc _) ⟨wr.heap.size + 1, 0, none⟩ [gp l i] 1 rfl (by have h := RowAt.new (enc := Pk.cells) (k := 6) (wr.alloc (.cells #[.int .i64 (gp l i).id, .int .i64 (gp l i).dst, .int .i64 (gp l i).pr, .int .i64 (gp l i).born, .int .i64 (gp l i).life, .string (gp l i).data] 30)) (gp l i) #[.int .i64 (gp l i).id, .int .i64 (gp l i).dst, .int .i64 (gp l i).pr, .int .i64 (gp l i).born, .int .i64 (gp l i).life, .string (gp l i).data] 30 rfl; simpa using h) (by simp; omega) (by have := HGL.out; simp only [List.length_cons, List.length_nil]; omega) ?_; intro v1 w5 hO5 hg5 hat5; (have hfm := hO5.form); obtain ⟨A8, c8, rfl, _, _⟩ := hfm; (have HAP := Lib.hid (exi_gone HEX.out (((Below.refl _ _).alloc (Nat.le_refl _) _).alloc (by simp) _) hO5 hg5 hat5)); (have HG5 := Lib.hid hg5); clear hO5 hg5 hat5)
        go_roundw
        case rel => exact ⟨i + 1, A8, c8, by simp, by rw [HGN.out]; simp, by omega, (((HBT.out.alloc (by omega) _).alloc (by simp; omega) _).grown HG5.out (by simp; omega) (fun b e => (H3.out.lt e).1)), by rw [HGN.out, HQN.out]; exact HAP.out⟩
        case measure => simp [intOf]; omega
      · have HQN := Lib.hid (show kept (staleP s) (l.take (i + 1)) = Q ++ [gp l i] by rw [HKS.out, if_neg (by simpa [staleP] using hp)])
        have HGN := Lib.hid (show kept (freshP s) (l.take (i + 1)) = G by rw [HKF.out, if_pos (by simpa [freshP] using hp), List.append_nil])
        have hor : decide (0 ≤ s) = false ∨ (decide (0 ≤ s) = true ∧ decide ((gp l i).life ≤ wrap64 (s - (gp l i).born)) = false) := by
          unfold staleB at hp
          by_cases h0 : 0 ≤ s
          · right; simp [h0] at hp; simp [h0, hp]
          · left; simp [h0]
        clear hp
        rcases hor with b0 | ⟨b0, b2⟩
        all_goals
          go_wp2_with (at_builtin; refine Own.append Pk.cells_len Pk.cells_one rfl _ _ 22 30 _ 56 rfl Try.underlying22 info30 rfl (by decide) (by decide) (.slice A6 Q.length c6) Q rfl (base := w1.heap.size) ((H2.out.alloc _).alloc _) ⟨wr.heap.size + 1, 0, none⟩ [gp l i] 1 rfl (by have h := RowAt.new (enc := Pk.cells) (k := 6) (wr.alloc (.cells #[.int .i64 (gp l i).id, .int .i64 (gp l i).dst, .int .i64 (gp l i).pr, .int .i64 (gp l i).born, .int .i64 (gp l i).life, .string (gp l i).data] 30)) (gp l i) #[.int .i64 (gp l i).id, .int .i64 (gp l i).dst, .int .i64 (gp l i).pr, .int .i64 (gp l i).born, .int .i64 (gp l i).life, .string (gp l i).data] 30 rfl; simpa using h) (by simp; omega) (by have := HQL.out; simp only [List.length_cons, List.length_nil]; omega) ?_; intro v1 w5 hO5 hg5 hat5; (have hfm := hO5.form); obtain ⟨A8, c8, rfl, _, _⟩ := hfm; (have HAP := Lib.hid (exi_out (n := Q.length + 1) H1'.out H2.out H3.out H4.out (((Below.refl _ _).alloc (Nat.le_refl _) _).alloc (by simp) _) hO5 hg5 hat5 (by simp))); (have HAP2 := Lib.hid (out_app (n := Q.length + 1) H1'.out H2.out (((Below.refl _ _).alloc (Nat.le_refl _) _).alloc (by simp) _) hO5 hg5 (by simp))); (have u2 : w5.cell? ⟨w1.heap.size, 1, none⟩ = some (.slice A6 Q.length c6) := blk_cell HAP2.out.2.2.2.2 1); (have u3 : w5.frozen? ⟨w1.heap.size, 1, none⟩ = false := blk_free HAP2.out.2.2.2.2 1); clear hO5 hg5 hat5)
          go_roundw
          case rel => exact ⟨i + 1, A7, c7, by simp, by rw [HGN.out], by omega, HAP2.out.2.2.1 _ _ HBT.out (by omega) (by omega) (by omega), by rw [HGN.out, HQN.out]; exact HAP.out⟩
          case measure => simp [intOf]; omega
    · have hli : decide ((i : Int) < l.length) = false := by simp; omega
      obtain rfl : i = l.length := by omega
      have HT := Lib.hid (show kept (staleP s) l = Q by rw [← HQ.out, List.take_length])
      have HT2 := Lib.hid (show kept (freshP s) l = G by rw [← HG.out, List.take_length])
      go_wp2
      refine bodyPost_ret (v := .tuple #[.agg #[.int .i64 L, .slice A6 Q.length c6], .slice A7 G.length c7]) (by simp [results, Try.results43, go_sem, r0, r1]) rfl ⟨ExpAns.good H1.out HT.out.symm HT2.out.symm ?_ ?_ (H2.out.fresh (by omega)) (H3.out.fresh (by omega)), ?_⟩
      · exact ((H2.out.setBelow (by simp; omega) _).setBelow (by simp; omega) _).pkAt
      · exact ((H3.out.setBelow (by simp; omega) _).setBelow (by simp; omega) _).pkAt
      · exact ((HW.out.trans (HBW.out.mono (by omega))).setCell (by simp) _).setCell (by simp) _
theorem refExpire_any (L : Int) (A : Option Addr) (c : Nat) (l : List Pk) (s : Int) (w : World) (hr : PkAt w A c l) :
    Calls Try.prog 43 #[.agg #[.int .i64 L, .slice A l.length c], .int .i64 s] w fun e w' => ExpAns w.heap.size w' e L l s ∧ Below w.heap.size w w' := by
  by_cases h : chk L l = 0
  · exact refExpire_good L A c l s w hr h
  · exact refExpire_bad L A c l s w hr h
end Go.Proofs.Ytckanomabhbkaaa
