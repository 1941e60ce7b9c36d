/- The program's check of a queue (it keeps the ids in a map), walked. -/
import Derived.Test.YtckanomabhbkaaaQA2
import Derived.Test.YtckanomabhbkaaaQMap
import Derived.IntWalk
import Derived.Maps.RangeWalk
namespace Go.Proofs.Ytckanomabhbkaaa
open Go.RowKit
set_option linter.unusedVariables false

theorem zeroB (w : World) : (zeroValue 4).run Try.prog w = .ok (.bool false) w := by kernel_rfl
def IdsOk (l : List Pk) : Prop := ∀ p ∈ l, (Lit.int .i64 p.id).wf = true
theorem IdsOk.gp {l : List Pk} (h : IdsOk l) {i : Int} (h0 : 0 ≤ i) (h1 : i < l.length) : (Lit.int .i64 (gp l i).id).wf = true := by
  rw [gp_elem' h0 h1]; exact h _ (List.getElem_mem _)
/-- The ids of the first i packets. -/
def Seen (l : List Pk) (i : Int) (s : List Int) : Prop := ∀ k, k ∈ s ↔ ∃ j : Int, 0 ≤ j ∧ j < i ∧ (gp l j).id = k
theorem Seen.hit {l : List Pk} {i : Int} {s : List Int} (h : Seen l i s) (h0 : 0 ≤ i) (h1 : i < l.length) : (gp l i).id ∈ s ↔ idx l (gp l i).id < i := by
  rw [h]
  constructor
  · rintro ⟨j, a, b, c⟩
    rcases Int.lt_or_le (idx l (gp l i).id) i with hl | hl
    · exact hl
    · exfalso
      have hs := fidx_spec (p := idp (gp l i).id) (l := l) (by show 0 ≤ idx l (gp l i).id; omega)
      have := hs.2 j a (by show j < idx l (gp l i).id; omega)
      simp [idp, c] at this
  · intro hl
    have hne : 0 ≤ idx l (gp l i).id := by
      rcases Int.lt_or_le (idx l (gp l i).id) 0 with hh | hh
      · exfalso
        have := fidx_neg hh i h0 h1
        simp [idp] at this
      · exact hh
    have hs := fidx_spec (p := idp (gp l i).id) (l := l) hne
    exact ⟨idx l (gp l i).id, hne, hl, by have := hs.1; simp only [idp, beq_iff_eq] at this; exact this⟩
theorem Seen.next {l : List Pk} {i : Int} {s : List Int} (h : Seen l i s) (h0 : 0 ≤ i) (hn : (gp l i).id ∉ s) : Seen l (i + 1) (if (gp l i).id ∈ s then s else (gp l i).id :: s) := by
  rw [if_neg hn]
  intro k
  rw [List.mem_cons, h]
  constructor
  · rintro (rfl | ⟨j, a, b, c⟩)
    · exact ⟨i, h0, by omega, rfl⟩
    · exact ⟨j, a, by omega, c⟩
  · rintro ⟨j, a, b, c⟩
    by_cases hj : j = i
    · subst hj; exact .inl c.symm
    · exact .inr ⟨j, a, by omega, c⟩

set_option maxHeartbeats 1600000 in
theorem check_any (L : Int) (A : Option Addr) (c : Nat) (l : List Pk) (w : World) (hr : RowAt Pk.cells 6 w A l) (hids : IdsOk l) :
    Calls Try.prog 20 #[.agg #[.int .i64 L, .slice A l.length c]] w fun e w' => e = .returned (.int .i64 (chk L l)) ∧ Below w.heap.size w w' := by
  have HR := Lib.hid hr
  have hb := hr.1
  have HI := Lib.hid hids
  clear hr hids
  have hu24 := Try.underlying24
  have hu30 := Try.underlying30
  have hmm := @run_makeMap Try.prog
  by_cases h12 : L < 1 ∨ 64 < L
  · have b0 : decide (1 ≤ L ∧ L ≤ 64) = false := by simp; omega
    have HC := Lib.hid (show 2 = chk L l by unfold chk; rw [if_pos h12])
    clear h12
    go_enter Try.func20, Try.ntmps20
    go_wp2_with (go_at_call 70; refine (within_any _ _ _ _).mono ?_; rintro e w' ⟨rfl, rfl⟩; rw [b0])
    go_ret
    exact ⟨ret_int HC.out, (Below.refl _ _).alloc (Nat.le_refl _) _⟩
  have b0 : decide (1 ≤ L ∧ L ≤ 64) = true := by simp; omega
  by_cases h3 : L < l.length
  · have HC := Lib.hid (show 8 = chk L l by unfold chk; rw [if_neg h12, if_pos h3])
    clear h12
    go_enter Try.func20, Try.ntmps20
    go_wp2_with (go_at_call 70; refine (within_any _ _ _ _).mono ?_; rintro e w' ⟨rfl, rfl⟩; rw [b0])
    go_ret
    exact ⟨ret_int HC.out, (Below.refl _ _).alloc (Nat.le_refl _) _⟩
  have HC := Lib.hid (show chk L l = firstErr l (l.length - (0 : Int)).toNat 0 by unfold chk; rw [if_neg h12, if_neg h3]; simp)
  have hL : l.length ≤ 64 := by omega
  clear h12
  go_enter Try.func20, Try.ntmps20
  set_option maxRecDepth 100000 in
  go_wp2_with (go_at_call 70; refine (within_any _ _ _ _).mono ?_; rintro e w' ⟨rfl, rfl⟩; rw [b0])
  clear b0 hmm
  set_option maxRecDepth 100000 in
  go_loopw [21] (fun v wr => ∃ i : Int, ∃ s : List Int, v = .int .i64 i ∧ 0 ≤ i ∧ i ≤ l.length ∧ Hid (chk L l = firstErr l (l.length - i).toNat i) ∧ Hid (Below (w.heap.size + 1) (w.alloc (.cells #[.int .i64 L, .slice A l.length c] 24)) wr) ∧ Hid (SetIs Try.prog 3 4 wr (w.heap.size + 1) i.toNat s) ∧ Hid (Seen l i s)) (fun v _ => (l.length - (intOf v)).toNat)
  case atStart => exact ⟨0, [], rfl, by omega, by omega, HC.out, (Below.refl _ _).alloc (by simp) _, by have h := SetIs.made (w.alloc (.cells #[.int .i64 L, .slice A l.length c] 24)) Try.prog 3 4; rw [World.size_alloc] at h; exact h, fun k => by simp; intro j a b; omega⟩
  case round =>
    obtain ⟨i, s, rfl, h0, hle, HN, HB, HS, HSeen⟩ := hrel
    have HBw : Hid (Below w.heap.size w wr) := ((Below.refl _ _).alloc (Nat.le_refl _) _).trans (HB.out.mono (by omega))
    have q0 : wr.cell? ⟨w.heap.size, 0, none⟩ = some (.int .i64 L) := (HB.out.cell (p := ⟨w.heap.size, 0, none⟩) (by simp)).trans (by simp)
    have q1 : wr.cell? ⟨w.heap.size, 1, none⟩ = some (.slice A l.length c) := (HB.out.cell (p := ⟨w.heap.size, 1, none⟩) (by simp)).trans (by simp)
    have hsz : w.heap.size + 1 < wr.heap.size := HS.out.lt
    by_cases hlt : i < l.length
    · obtain ⟨ad, rfl, c0, c1, c2, c3, c4, c5⟩ := (HR.out.below HBw.out).pk i h0 hlt
      have hwf := Lib.hid (HI.out.gp h0 hlt)
      go_wp2_with fail
      refine (form_any _ _).mono ?_
      rintro e w1 ⟨rfl, hb1⟩
      obtain ⟨hc1, hf1⟩ := bcell hb1
      have hz1 : wr.heap.size + 1 ≤ w1.heap.size := by have := hb1.size; simp at this; omega
      have HB1 : Hid (Below (w.heap.size + 1) (w.alloc (.cells #[.int .i64 L, .slice (some ad) l.length c] 24)) w1) := (HB.out.trans ((Below.refl _ _).alloc (by omega) _)).trans (hb1.mono (by simp; omega))
      have HS1 : Hid (SetIs Try.prog 3 4 w1 (w.heap.size + 1) i.toNat s) := (HS.out.alloc _).below hb1 (by simp; omega)
      have HBw1 : Hid (Below w.heap.size w w1) := ((Below.refl _ _).alloc (Nat.le_refl _) _).trans (HB1.out.mono (by omega))
      have p0 : w1.cell? ⟨wr.heap.size, 0, none⟩ = some (.int .i64 (gp l i).id) := (hb1.cell (p := ⟨wr.heap.size, 0, none⟩) (by simp)).trans (by simp)
      have p2 : w1.cell? ⟨wr.heap.size, 2, none⟩ = some (.int .i64 (gp l i).pr) := (hb1.cell (p := ⟨wr.heap.size, 2, none⟩) (by simp)).trans (by simp)
      clear hb1 hc1 hf1 c0 c1 c2 c3 c4 c5 q0 q1
      by_cases hp : pform (gp l i) = 0
      · have b1 : (pform (gp l i) != 0) = false := by simp [hp]
        have HP := Lib.hid hp
        clear hp
        by_cases hi : (gp l i).id ∈ s
        · have HE := Lib.hid (show errAt l i = 6 by unfold errAt; rw [if_neg (by simp [HP.out]), if_pos ((HSeen.out.hit h0 hlt).1 hi)])
          have b2 : decide ((gp l i).id ∈ s) = true := by simp [hi]
          clear hi
          go_wp2_with (at_lookup; refine SetIs.look (K := 3) (E := 4) rfl _ _ rfl Try.underlying3 Try.underlying51 Try.underlying4 (zeroB _) rfl HS1.out _ rfl hwf.out ?_; rw [b2])
          go_ret
          exact ⟨ret_int (by rw [HN.out, firstErr_stop hlt (by rw [HE.out]; decide), HE.out]), HBw1.out⟩
        · have hix : ¬ idx l (gp l i).id < i := fun h => hi ((HSeen.out.hit h0 hlt).2 h)
          have HNI := Lib.hid hi
          have b2 : decide ((gp l i).id ∈ s) = false := by simp [hi]
          clear hi
          have r0 : w1.cell? ⟨w.heap.size, 0, none⟩ = some (.int .i64 L) := (HB1.out.cell (p := ⟨w.heap.size, 0, none⟩) (by simp)).trans (by simp)
          have r1 : w1.cell? ⟨w.heap.size, 1, none⟩ = some (.slice (some ad) l.length c) := (HB1.out.cell (p := ⟨w.heap.size, 1, none⟩) (by simp)).trans (by simp)
          by_cases hi0 : 0 < i
          · obtain ⟨ad', e', d0, d1, d2, d3, d4, d5⟩ := (HR.out.below HBw1.out).pk (i - 1) (by omega) (by omega)
            cases e'
            rw [show (i - 1).toNat = i.toNat - 1 from by omega] at d2
            have b3 : decide (0 < i) = true := by simp [hi0]
            have g1 : IntKind.i64.wrap (i - 1) = i - 1 := IntWalk.i64_in _ (by omega)
            have g2 : 0 ≤ i - 1 := by omega
            have g3 : i - 1 < l.length := by omega
            have g4 : 1 ≤ i := by omega
            by_cases ho : (gp l i).pr < (gp l (i - 1)).pr
            · have HE := Lib.hid (show errAt l i = 5 by unfold errAt; rw [if_neg (by simp [HP.out]), if_neg hix, if_pos ⟨hi0, ho⟩])
              have b4 : decide ((gp l i).pr < (gp l (i - 1)).pr) = true := by simp [ho]
              go_wp2_with (at_lookup; refine SetIs.look (K := 3) (E := 4) rfl _ _ rfl Try.underlying3 Try.underlying51 Try.underlying4 (zeroB _) rfl HS1.out _ rfl hwf.out ?_; rw [b2])
              go_frame
              go_quiet (fail)
              clear g1 g2 g3 g4
              go_wp2
              go_ret
              exact ⟨ret_int (by rw [HN.out, firstErr_stop hlt (by rw [HE.out]; decide), HE.out]), by repeat (first | exact HBw1.out | apply Below.drew | apply blw_drewN)⟩
            · have HE := Lib.hid (show errAt l i = 0 by unfold errAt; rw [if_neg (by simp [HP.out]), if_neg hix, if_neg (fun h => ho h.2)])
              have b4 : decide ((gp l i).pr < (gp l (i - 1)).pr) = false := by simp [ho]
              go_wp2_with (at_lookup; refine SetIs.look (K := 3) (E := 4) rfl _ _ rfl Try.underlying3 Try.underlying51 Try.underlying4 (zeroB _) rfl HS1.out _ rfl hwf.out ?_; rw [b2])
              go_frame
              go_quiet (fail)
              clear g1 g2 g3 g4
              go_wp2_with (at_mapUpdate; refine SetIs.add (K := 3) (E := 4) rfl _ _ _ rfl Try.underlying3 Try.underlying51 Try.underlying4 rfl (HS1.out.drewN _) (by unfold maxLen; omega) _ rfl rfl hwf.out ?_; intro w2 hS2 hg2)
              go_roundw
              case rel => exact ⟨i + 1, _, rfl, by omega, by omega, HN.out.trans (firstErr_go hlt HE.out), (blw_drewN HB1.out _).grown hg2 (by simp; omega) (by intro k e; cases e; omega), by have e := hS2; rw [show i.toNat + 1 = (i + 1).toNat from by omega] at e; exact e, HSeen.out.next h0 HNI.out⟩
              case measure => simp [intOf]; omega
          · have HE := Lib.hid (show errAt l i = 0 by unfold errAt; rw [if_neg (by simp [HP.out]), if_neg hix, if_neg (fun h => hi0 h.1)])
            have b3 : decide (0 < i) = false := by simp [hi0]
            go_wp2_with (at_lookup; refine SetIs.look (K := 3) (E := 4) rfl _ _ rfl Try.underlying3 Try.underlying51 Try.underlying4 (zeroB _) rfl HS1.out _ rfl hwf.out ?_; rw [b2])
            go_frame
            go_quiet (fail)
            go_wp2_with (at_mapUpdate; refine SetIs.add (K := 3) (E := 4) rfl _ _ _ rfl Try.underlying3 Try.underlying51 Try.underlying4 rfl (HS1.out.drewN _) (by unfold maxLen; omega) _ rfl rfl hwf.out ?_; intro w2 hS2 hg2)
            go_roundw
            case rel => exact ⟨i + 1, _, rfl, by omega, by omega, HN.out.trans (firstErr_go hlt HE.out), (blw_drewN HB1.out _).grown hg2 (by simp; omega) (by intro k e; cases e; omega), by have e := hS2; rw [show i.toNat + 1 = (i + 1).toNat from by omega] at e; exact e, HSeen.out.next h0 HNI.out⟩
            case measure => simp [intOf]; omega
      · have b1 : (pform (gp l i) != 0) = true := by simp [hp]
        have HE := Lib.hid (show errAt l i = pform (gp l i) by unfold errAt; rw [if_pos hp])
        have HP := Lib.hid hp
        clear hp
        go_wp2
        go_ret
        exact ⟨ret_int (by rw [HN.out, firstErr_stop hlt (by rw [HE.out]; exact HP.out), HE.out]), HBw1.out⟩
    · go_wp2
      go_ret
      exact ⟨ret_int (by rw [HN.out, firstErr_end (by omega)]), HBw.out⟩
end Go.Proofs.Ytckanomabhbkaaa
