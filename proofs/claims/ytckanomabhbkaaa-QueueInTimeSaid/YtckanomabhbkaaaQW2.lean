/- The chapter's example, walked. -/
import Derived.Test.YtckanomabhbkaaaQW
import Derived.Test.YtckanomabhbkaaaQP5
import Derived.Test.YtckanomabhbkaaaQV2
import Derived.Test.YtckanomabhbkaaaQE
namespace Go.Proofs.Ytckanomabhbkaaa
open Go.RowKit Go.Shelf
set_option linter.unusedVariables false
theorem RowAt.of_block {α : Type} {enc : α → List Value} {k : Nat} (hk : ∀ x, (enc x).length = k) {w : World} {b : Nat} {cs : Array Value} {t : TypeId} {fr : Nat × Nat} {l : List α} (h : w.heap[b]? = some (.cells cs t fr)) (hl : l.flatMap enc = cs.toList) (hn : l.length ≤ 9223372036854775807) : RowAt enc k w (some ⟨b, 0, none⟩) l := by
  refine ⟨hn, fun _ => ⟨_, rfl, fun i x hx j v hv => ?_⟩⟩
  have hadd : ∀ j, (⟨b, 0, none⟩ : Addr).add j = ⟨b, j, none⟩ := fun j => by unfold Addr.add; split <;> simp_all
  rw [hadd, blk_cell h]
  have := flat_get hk l i j x v hx hv
  rw [hl] at this
  simpa using this
theorem RowAt.setFresh {α : Type} {enc : α → List Value} {k : Nat} {w : World} {A : Option Addr} {l : List α} (h : RowAt enc k w A l) {B : Nat} (hf : Fresh B A) {q : Addr} (hq : q.block < B) (u : Value) : RowAt enc k (w.setCell q u) A l :=
  ⟨h.1, fun hn => by
    obtain ⟨ad, e, hc⟩ := h.2 hn
    refine ⟨ad, e, fun i x hx j v hv => ?_⟩
    have hb := hf ad e
    have := hc i x hx j v hv
    rw [← this]
    exact World.cell?_of_block (Below.heap_setCell w q u _ (by
      have : (ad.add (i * k + j)).block = ad.block := by unfold Addr.add; split <;> rfl
      rw [this]; omega))⟩
theorem PkAt.setFresh {w : World} {A : Option Addr} {c : Nat} {l : List Pk} (h : PkAt w A c l) {B : Nat} (hf : Fresh B A) {q : Addr} (hq : q.block < B) (u : Value) : PkAt (w.setCell q u) A c l := ⟨h.row.setFresh hf hq u, h.le, h.cap, h.nil⟩
/-- The variable of the example, and the rest. -/
structure AwI (w : World) (A : Option Addr) (n c : Nat) (l : List Pk) (W : World) : Prop where
  bel : Below w.heap.size w W
  blk : W.heap[w.heap.size]? = some (.cells #[.int .i64 2, .slice A n c] 24 (0, 0))
  row : PkAt W A c l
theorem AwI.set {w W W1 : World} {A A1 : Option Addr} {n c n1 c1 : Nat} {l l1 : List Pk} (h : AwI w A n c l W) (hb : Below W.heap.size W W1) (h1 : PkAt W1 A1 c1 l1) (hf : Fresh W.heap.size A1) : AwI w A1 n1 c1 l1 ((W1.setCell ⟨w.heap.size, 0, none⟩ (.int .i64 2)).setCell ⟨w.heap.size, 1, none⟩ (.slice A1 n1 c1)) := by
  have hlt := blk_lt h.blk
  have hb1 := blk_below h.blk hb hlt
  refine ⟨((h.bel.trans (hb.mono h.bel.size)).setCell (by simp) _).setCell (by simp) _, ?_, (h1.setFresh hf hlt _).setFresh hf hlt _⟩
  exact set1_at (set1_at hb1 0 _) 1 _
theorem AwI.cells {w W : World} {A : Option Addr} {n c : Nat} {l : List Pk} (h : AwI w A n c l W) : (W.cell? ⟨w.heap.size, 0, none⟩ = some (.int .i64 2) ∧ W.cell? ⟨w.heap.size, 1, none⟩ = some (.slice A n c)) ∧ W.frozen? ⟨w.heap.size, 0, none⟩ = false ∧ W.frozen? ⟨w.heap.size, 1, none⟩ = false ∧ w.heap.size < W.heap.size :=
  ⟨⟨blk_cell h.blk 0, blk_cell h.blk 1⟩, blk_free h.blk 0, blk_free h.blk 1, blk_lt h.blk⟩
theorem AwI.below {w W W1 : World} {A : Option Addr} {n c : Nat} {l : List Pk} (h : AwI w A n c l W) (hb : Below W.heap.size W W1) : AwI w A n c l W1 := ⟨h.bel.trans (hb.mono h.bel.size), blk_below h.blk hb (blk_lt h.blk), h.row.below hb⟩
set_option maxHeartbeats 3200000 in
theorem awake_any (w : World) : Calls Try.prog 18 #[] w fun e w' => e = .returned (.bool true) ∧ Below w.heap.size w w' := by
  have hu24 := Try.underlying24
  have hu30 := Try.underlying30
  have hu46 := Try.underlying46
  have H0 : AwI w none 0 0 [] (w.alloc (.cells #[.int .i64 2, .slice none 0 0] 24)) := ⟨(Below.refl _ _).alloc (Nat.le_refl _) _, blk_new w _ rfl, PkAt.zero _⟩
  have HA0 := Lib.hid H0
  clear H0
  go_enter Try.func18, Try.ntmps18
  go_wp2_with fail
  refine (put_any 2 none 0 [] P1 _ HA0.out.row ids0).mono ?_
  rintro e w1 ⟨⟨A1, c1, A1', c1', rfl, hQ, hG, hf, hf2⟩, hb⟩
  rw [w1L, w1Q, w1G, w1E]
  rw [w1Q] at hQ
  have HA1 := Lib.hid (HA0.out.set (n1 := 1) hb hQ hf)
  have HC1 := (HA0.out.below hb).cells
  obtain ⟨⟨q0, q1⟩, f0, f1, l0⟩ := HC1
  clear hQ hG hf hf2 hb
  go_wp2_with fail
  refine (put_any 2 A1 c1 [P1] P2 _ HA1.out.row ids1).mono ?_
  rintro e w2 ⟨⟨A2, c2, A2', c2', rfl, hQ, hG, hf, hf2⟩, hb⟩
  rw [w2L, w2Q, w2G, w2E]
  rw [w2Q] at hQ
  have HA2 := Lib.hid (HA1.out.set (n1 := 2) hb hQ hf)
  have HC2 := (HA1.out.below hb).cells
  clear q0 q1 f0 f1 l0 hQ hG hf hf2 hb
  obtain ⟨⟨q0, q1⟩, f0, f1, l0⟩ := HC2
  go_wp2_with fail
  refine (put_any 2 A2 c2 [P1, P2] P3 _ HA2.out.row ids2).mono ?_
  rintro e w3 ⟨⟨A3, c3, A3', c3', rfl, hQ, hG, hf, hf2⟩, hb⟩
  rw [w3L, w3Q, w3G, w3E]
  rw [w3Q] at hQ
  rw [w3G] at hG
  have HA3 := Lib.hid (HA2.out.set (n1 := 2) hb hQ hf)
  have HG3 := Lib.hid ((hG.setFresh (q := ⟨w.heap.size, 0, none⟩) hf2 (blk_lt HA2.out.blk) (.int .i64 2)).setFresh (q := ⟨w.heap.size, 1, none⟩) hf2 (blk_lt HA2.out.blk) (.slice A3 2 c3))
  have HC3 := (HA2.out.below hb).cells
  clear q0 q1 f0 f1 l0 hQ hG hf hf2 hb
  obtain ⟨⟨q0, q1⟩, f0, f1, l0⟩ := HC3
  go_wp2_with fail
  refine (bound_any 2 A3 c3 [P3, P1] 1 3 _ HA3.out.row ids3).mono ?_
  rintro e w4 ⟨rfl, hb⟩
  rw [wBE, wBV]
  have HA4 := Lib.hid (HA3.out.below hb)
  have HG4 := Lib.hid (HG3.out.below hb)
  clear q0 q1 f0 f1 l0 hb
  obtain ⟨⟨q0, q1⟩, f0, f1, l0⟩ := HA4.out.cells
  go_wp2_with fail
  have HA5 := Lib.hid (HA4.out.below ((Below.refl _ _).alloc (o := .cells #[.int .i64 (-2), .int .i64 4, .int .i64 (-2), .int .i64 (-2)] 3) (Nat.le_refl _)))
  have HG5 := Lib.hid (HG4.out.below ((Below.refl _ _).alloc (o := .cells #[.int .i64 (-2), .int .i64 4, .int .i64 (-2), .int .i64 (-2)] 3) (Nat.le_refl _)))
  refine (serve_any 2 A3 c3 [P3, P1] 2 (some ⟨w4.heap.size, 0, none⟩) 4 [-2, 4, -2, -2] _ HA5.out.row ids3 (RowAt.of_block intc_len (blk_new w4 _ rfl) rfl (by simp))).mono ?_
  rintro e w5 ⟨⟨A6, c6, A7, c7, rfl, hQ, hD⟩, hb⟩
  rw [wSE, wSL, wSQ, wSD]
  rw [wSQ] at hQ
  rw [wSD] at hD
  have HG6 := Lib.hid (HG5.out.below hb)
  have HD6 := Lib.hid hD
  have HB6 := Lib.hid (HA5.out.bel.trans (hb.mono HA5.out.bel.size))
  clear q0 q1 f0 f1 l0 hb hQ hD
  obtain ⟨adg, eg, p0, _⟩ := HG6.out.row.pk 0 (by omega) (by simp)
  subst eg
  have p1 : w5.cell? adg = some (.int .i64 2) := by
    have ha : adg.add 0 = adg := by simp [Addr.add]
    have := p0
    rw [show Int.toNat 0 * 6 = 0 from rfl, ha] at this
    exact this
  clear p0
  have a1 : adg.block < w5.heap.size := cell_lt p1
  have a2 : ¬ adg.block = w5.heap.size := by omega
  set_option maxRecDepth 100000 in go_wp2_with fail
  have hb6 : Below w5.heap.size w5 ((w5.alloc (.cells #[.int .i64 2, .slice A6 0 c6] 24)).alloc (.cells #[.int .i64 3, .int .i64 3, .bool false, .int .i64 1, .int .i64 5, .bool true] 46)) := ((Below.refl _ _).alloc (Nat.le_refl _) _).alloc (by simp) _
  refine (equalDp_any A7 c7 [⟨3, 3, false⟩, ⟨1, 5, true⟩] (some ⟨w5.heap.size + 1, 0, none⟩) 2 [⟨3, 3, false⟩, ⟨1, 5, true⟩] _ (HD6.out.row.below hb6) (RowAt.of_block Dp.cells_len (blk_new (w5.alloc (.cells #[.int .i64 2, .slice A6 0 c6] 24)) _ (by simp)) rfl (by simp))).mono ?_
  rintro e w7 ⟨rfl, hb7⟩
  rw [show sameDp [⟨3, 3, false⟩, ⟨1, 5, true⟩] [⟨3, 3, false⟩, ⟨1, 5, true⟩] = true from sameDp_iff.2 rfl]
  have HB7 := Lib.hid ((HB6.out.trans (hb6.mono HB6.out.size)).trans (hb7.mono (by have := HB6.out.size; simp; omega)))
  clear hb6 hb7
  go_wp2
  go_ret
  exact ⟨rfl, HB7.out⟩
end Go.Proofs.Ytckanomabhbkaaa
