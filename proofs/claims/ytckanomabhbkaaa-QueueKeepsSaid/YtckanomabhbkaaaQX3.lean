/- The reference's Take where it takes, walked. -/
import Derived.Test.YtckanomabhbkaaaQX2
import Derived.Test.YtckanomabhbkaaaQW2
namespace Go.Proofs.Ytckanomabhbkaaa
open Go.RowKit Go.Shelf
set_option linter.unusedVariables false
theorem fidx_id {l : List Pk} {id : Int} {m : Nat} (h : idx l id = m) : (gp l m).id = id := by
  have := (fidx_spec (p := idp id) (l := l) (by show 0 ≤ idx l id; omega)).1
  rw [show fidx (idp id) l = m from h] at this
  simpa [idp] using this
theorem RowAt.pkn {w : World} {ad : Addr} {l : List Pk} (h : RowAt Pk.cells 6 w (some ad) l) {i : Nat} (hi : i < l.length) :
    w.cell? (ad.add (i * 6)) = some (.int .i64 (gp l i).id) ∧ w.cell? ⟨(ad.add (i * 6)).block, (ad.add (i * 6)).off + 1, none⟩ = some (.int .i64 (gp l i).dst) ∧ w.cell? ⟨(ad.add (i * 6)).block, (ad.add (i * 6)).off + 2, none⟩ = some (.int .i64 (gp l i).pr) ∧ w.cell? ⟨(ad.add (i * 6)).block, (ad.add (i * 6)).off + 3, none⟩ = some (.int .i64 (gp l i).born) ∧ w.cell? ⟨(ad.add (i * 6)).block, (ad.add (i * 6)).off + 4, none⟩ = some (.int .i64 (gp l i).life) ∧ w.cell? ⟨(ad.add (i * 6)).block, (ad.add (i * 6)).off + 5, none⟩ = some (.string (gp l i).data) := by
  obtain ⟨ad', e', h⟩ := h.pk i (by omega) (by omega)
  cases e'
  rwa [Int.toNat_natCast] at h
set_option maxHeartbeats 3200000 in
theorem refTake_good (L : Int) (A : Option Addr) (c : Nat) (l : List Pk) (id : Int) (w : World) (hr : PkAt w A c l) (h : aheadE L l id = 0) :
    Calls Try.prog 41 #[.agg #[.int .i64 L, .slice A l.length c], .int .i64 id] w fun e w' => TakeAns w.heap.size w' e L l id ∧ Below w.heap.size w w' := by
  have HR := Lib.hid hr
  have hu24 := Try.underlying24
  have hu30 := Try.underlying30
  have HW := Lib.hid (tkW_below w L A c l)
  have hcap := hr.cap
  have h1 : chk L l = 0 := by
    by_cases h1 : chk L l = 0
    · exact h1
    · exact absurd h (by unfold aheadE; rw [if_pos h1]; decide)
  have h3 : ¬ idx l id < 0 := fun h3 => absurd h (by unfold aheadE; rw [if_neg (by rw [h1]; simp), if_pos h3]; decide)
  have hck := chk_ok h1
  have hkr := fidx_range (idp id) l
  obtain ⟨m, hm⟩ : ∃ m : Nat, idx l id = m := ⟨(idx l id).toNat, by omega⟩
  have hml : m < l.length := by
    have : idx l id < l.length := hkr.2
    omega
  have HM := Lib.hid hm
  have HE := Lib.hid h
  have b1 : (chk L l != 0) = false := by simp [h1]
  have b3 : decide ((m : Int) < 0) = false := by simp
  have HLN := Lib.hid (show l.length ≤ 64 by omega)
  clear hr h h1 h3 hkr hm hck
  go_enter Try.func41, Try.ntmps41
  go_wp2_with fail
  refine (refCheck_any L A c l _ (HR.out.row.below HW.out)).mono ?_
  rintro e w1 ⟨rfl, hb1⟩
  have HB1 := Lib.hid (show Below (w.heap.size + 3) (tkW w L A c l) w1 from by have h := hb1; rw [← tkW_size w L A c l]; exact h)
  have hB := tkW_blocks HB1.out
  obtain ⟨⟨q0, q1⟩, r0, r1, f0, f1⟩ := srv_cells hB.1
  clear hb1 hB
  go_wp2_with fail
  refine (refIndex_any A c l id _ (HR.out.row.below (HW.out.trans (HB1.out.mono (by omega))))).mono ?_
  rintro e w2 ⟨rfl, hb2⟩
  rw [HM.out]
  have hz1 : w.heap.size + 3 ≤ w1.heap.size := by have := HB1.out.size; rwa [tkW_size] at this
  have HB2 := Lib.hid (HB1.out.trans (hb2.mono hz1))
  have hz2 := hb2.size
  have hB := tkW_blocks HB2.out
  clear q0 q1 r0 r1 f0 f1 hb2
  obtain ⟨⟨q0, q1⟩, r0, r1, f0, f1⟩ := srv_cells hB.1
  clear hB
  obtain ⟨ad, e', c0, c1, c2, c3, c4, c5⟩ := (HR.out.row.below (HW.out.trans (HB2.out.mono (by omega)))).pk m (by omega) (by omega)
  subst e'
  rw [Int.toNat_natCast] at c0 c1 c2 c3 c4 c5
  have hab : (ad.add (m * 6)).block < w.heap.size := cell_lt (RowAt.pkn HR.out.row hml).1
  have e1 : ¬ (ad.add (m * 6)).block = w.heap.size + 1 := by omega
  have e2 : ¬ w.heap.size + 1 = (ad.add (m * 6)).block := by omega
  have e3 : ¬ (ad.add (m * 6)) = ⟨w.heap.size + 1, 0, none⟩ := fun e => e1 (by rw [e])
  have e4 : ¬ (ad.add (m * 6)) = ⟨w.heap.size + 1, 1, none⟩ := fun e => e1 (by rw [e])
  have e5 : ¬ (⟨w.heap.size + 1, 0, none⟩ : Addr) = ad.add (m * 6) := fun e => e1 (by rw [← e])
  have e6 : ¬ (⟨w.heap.size + 1, 1, none⟩ : Addr) = ad.add (m * 6) := fun e => e1 (by rw [← e])
  have g1 : (0 : Int) ≤ m := by omega
  have g2 : (m : Int) < l.length := by omega
  set_option maxRecDepth 100000 in go_wp2_with fail
  set_option maxRecDepth 100000 in
  go_region_with (go_at_call 84; refine (without_any L (some ad) c l id _ (HR.out.below (HW.out.trans ((blw_drewN HB2.out _).mono (by omega)))) HLN.out).mono ?_; rintro e w3 ⟨⟨v, rfl, A3, c3', rfl, hP3, hF3⟩, hb3⟩; (have HB3 := Lib.hid ((blw_drewN HB2.out _).trans (hb3.mono (by simp; omega)))); (have hB := tkW_blocks HB3.out); (have HP3 := Lib.hid hP3); (have HF3 := Lib.hid hF3); clear q0 q1 r0 r1 f0 f1 hb3 hP3 hF3; obtain ⟨⟨q0, q1⟩, r0, r1, f0, f1⟩ := srv_cells hB.1; obtain ⟨s0, s1, s2, s3, s4, s5⟩ := box6 hB.2; obtain ⟨t0, t1, t2, t3, t4, t5⟩ := box6f hB.2; clear hB; obtain ⟨d0, d1, d2, d3, d4, d5⟩ := RowAt.pkn (HR.out.row.below (HW.out.trans (HB3.out.mono (by omega)))) hml)
  all_goals
    set_option maxRecDepth 100000 in go_wp2
    refine bodyPost_ret (v := .tuple #[.agg #[.int .i64 L, .slice A3 (kept (idp id) l).length c3'], pkv (gp l m), .int .i64 0]) (by simp [results, Try.results41, go_sem, r0, r1, s0, s1, s2, s3, s4, s5, pkv]) rfl ⟨TakeAns.good HE.out rfl (by rw [HM.out]) ?_ (fun a ha => Nat.le_trans (show w.heap.size ≤ w2.drew.heap.size from by show w.heap.size ≤ w2.heap.size; omega) (HF3.out a ha)), ?_⟩
    · have hx : ∀ k, k < 3 → w.heap.size + k < w2.drew.heap.size := fun k hk => by show w.heap.size + k < w2.heap.size; omega
      exact (((((((HP3.out.setFresh HF3.out (hx 1 (by omega)) _).setFresh HF3.out (hx 1 (by omega)) _).setFresh HF3.out (hx 2 (by omega)) _).setFresh HF3.out (hx 2 (by omega)) _).setFresh HF3.out (hx 2 (by omega)) _).setFresh HF3.out (hx 2 (by omega)) _).setFresh HF3.out (hx 2 (by omega)) _).setFresh HF3.out (hx 2 (by omega)) _
    · have HX := HW.out.trans (HB3.out.mono (by omega))
      exact (((((((HX.setCell (by simp) _).setCell (by simp) _).setCell (by simp; omega) _).setCell (by simp; omega) _).setCell (by simp; omega) _).setCell (by simp; omega) _).setCell (by simp; omega) _).setCell (by simp; omega) _
theorem refTake_any (L : Int) (A : Option Addr) (c : Nat) (l : List Pk) (id : Int) (w : World) (hr : PkAt w A c l) :
    Calls Try.prog 41 #[.agg #[.int .i64 L, .slice A l.length c], .int .i64 id] w fun e w' => TakeAns w.heap.size w' e L l id ∧ Below w.heap.size w w' := by
  by_cases h : aheadE L l id = 0
  · exact refTake_good L A c l id w hr h
  · exact refTake_bad L A c l id w hr h
end Go.Proofs.Ytckanomabhbkaaa
