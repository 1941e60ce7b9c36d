/- The reference's Put: its errors, walked; an element appended to a row that lies in a variable of type queue. -/
import Derived.Test.YtckanomabhbkaaaQP
import Derived.Test.YtckanomabhbkaaaQC
import Derived.Test.YtckanomabhbkaaaQF
namespace Go.Proofs.Ytckanomabhbkaaa
open Go.RowKit Go.Shelf
set_option linter.unusedVariables false
theorem run_append_zero {P : Program} (w : World) (t ty elem : TypeId) (A B : Option Addr) (n c cc : Nat) (i0 : TypeInfo) (hu : P.underlying t = some (.slice elem)) (hi : P.info? elem = some i0) (hn : n ≤ c) :
    (Builtin.append_ #[t, t] ty #[.slice A n c, .slice B 0 cc]).run P w = .ok (.slice A n c) w := by
  have h0 : ∀ a, (loadCells a 0).run P w = .ok #[] w := fun a => by
    have := run_loadCells_list (P := P) w a [] (fun j v h => by simp at h)
    simpa using this
  have h1 : ∀ a, (storeCells a []).run P w = .ok () w := fun a => rfl
  cases A <;> cases B <;> simp [Builtin.append_, run_underlying hu, sizeOf, typeInfo, hi, Builtin.lenOf, hn, Builtin.firstCells, h0, h1]
theorem out_app {wr V w5 : World} {O base n : Nat} {L : Int} {A6 A7 : Option Addr} {c6 c7 : Nat} {out out' : List Pk} (h1 : wr.heap[O]? = some (.cells #[.int .i64 L, .slice A6 out.length c6] 24 (0, 0))) (h2 : Own Pk.cells 6 wr base 30 (.slice A6 out.length c6) out) (hV : Below wr.heap.size wr V)
    (hO : Own Pk.cells 6 w5 base 30 (.slice A7 out'.length c7) out') (hg : V.grownBy w5 (Value.slice A6 out.length c6).ownBlock) (hn : n = out'.length) :
    (w5.setCell ⟨O, 1, none⟩ (.slice A7 n c7)).heap[O]? = some (.cells #[.int .i64 L, .slice A7 out'.length c7] 24 (0, 0)) ∧ Own Pk.cells 6 (w5.setCell ⟨O, 1, none⟩ (.slice A7 n c7)) base 30 (.slice A7 out'.length c7) out' ∧
    (∀ B w0, Below B w0 wr → B ≤ wr.heap.size → B ≤ base → B ≤ O → Below B w0 (w5.setCell ⟨O, 1, none⟩ (.slice A7 n c7))) ∧
    (∀ b x, wr.heap[b]? = some x → b ≠ O → ob A6 ≠ some b → (w5.setCell ⟨O, 1, none⟩ (.slice A7 n c7)).heap[b]? = some x) ∧ w5.heap[O]? = some (.cells #[.int .i64 L, .slice A6 out.length c6] 24 (0, 0)) := by
  subst hn
  have hkeep : ∀ b x, wr.heap[b]? = some x → (Value.slice A6 out.length c6).ownBlock ≠ some b → w5.heap[b]? = some x := fun b x hx h2 => by
    have hl := blk_lt hx
    exact (hg.block b (Nat.lt_of_lt_of_le hl hV.size) (fun e => h2 e.symm)).trans ((hV.block b hl).trans hx)
  have hO5 := hkeep O _ h1 (h2.ne h1 (by decide))
  refine ⟨set1_at hO5 1 _, hO.setCell (hO.ne hO5 (by decide)) _, fun B w0 hb hB1 hB2 hB3 => ?_, fun b x hx hne h3 => ?_, hO5⟩
  · have hV2 : Below B w0 V := hb.trans (hV.mono hB1)
    exact (hV2.grown hg (Nat.le_trans hB1 hV.size) (fun b e => Nat.le_trans hB2 (h2.lt e).1)).setCell hB3 _
  · rw [Below.heap_setCell w5 ⟨O, 1, none⟩ _ b hne]
    exact hkeep b x hx (by rw [ob_eq]; exact h3)
set_option maxHeartbeats 800000 in
theorem refPut_arg (L : Int) (A : Option Addr) (c : Nat) (l : List Pk) (p : Pk) (w : World) (hr : PkAt w A c l) (h1 : chk L l ≠ 0) :
    Calls Try.prog 23 #[.agg #[.int .i64 L, .slice A l.length c], .agg #[.int .i64 p.id, .int .i64 p.dst, .int .i64 p.pr, .int .i64 p.born, .int .i64 p.life, .string p.data]] w fun e w' => PutAns w.heap.size w' e L l p ∧ Below w.heap.size w w' := by
  have HR := Lib.hid hr
  have HE := Lib.hid (show putE L l p = 1 by unfold putE; rw [if_pos h1])
  have b1 : (chk L l != 0) = true := by simp [h1]
  have hu24 := Try.underlying24
  have hu30 := Try.underlying30
  have HW := Lib.hid (putW_below w L A c l p)
  clear hr h1
  go_enter Try.func23, Try.ntmps23
  go_wp2_with fail
  refine (refCheck_any L A c l _ (HR.out.row.below HW.out)).mono ?_
  rintro e w1 ⟨rfl, hb1⟩
  have HB1 := Lib.hid (show Below (w.heap.size + 3) (putW w L A c l p) w1 from by have h := hb1; rw [putW_size] at h; exact h)
  obtain ⟨⟨q0, q1⟩, ⟨p0, p1, p2, p3, p4, p5⟩, ⟨r0, r1, f0, f1⟩⟩ := putW_cells HB1.out
  clear hb1
  go_wp2
  refine bodyPost_ret (v := .tuple #[.agg #[.int .i64 0, .slice none 0 0], .slice none 0 0, .int .i64 1]) (by simp [results, Try.results23, go_sem, r0, r1]) rfl ⟨PutAns.bad HE.out (by decide), ?_⟩
  exact ((HW.out.trans (HB1.out.mono (by omega))).setCell (by simp; omega) _).setCell (by simp; omega) _
set_option maxHeartbeats 1600000 in
theorem refPut_form (L : Int) (A : Option Addr) (c : Nat) (l : List Pk) (p : Pk) (w : World) (hr : PkAt w A c l) (h1 : chk L l = 0) (h2 : pform p ≠ 0) :
    Calls Try.prog 23 #[.agg #[.int .i64 L, .slice A l.length c], .agg #[.int .i64 p.id, .int .i64 p.dst, .int .i64 p.pr, .int .i64 p.born, .int .i64 p.life, .string p.data]] w fun e w' => PutAns w.heap.size w' e L l p ∧ Below w.heap.size w w' := by
  have HR := Lib.hid hr
  have HE := Lib.hid (show putE L l p = pform p by unfold putE; rw [if_neg (by rw [h1]; simp), if_pos h2])
  have b1 : (chk L l != 0) = false := by simp [h1]
  have b2 : (pform p != 0) = true := by simp [h2]
  have H2 := Lib.hid h2
  have hu24 := Try.underlying24
  have hu30 := Try.underlying30
  have HW := Lib.hid (putW_below w L A c l p)
  clear hr h1 h2
  go_enter Try.func23, Try.ntmps23
  go_wp2_with fail
  refine (refCheck_any L A c l _ (HR.out.row.below HW.out)).mono ?_
  rintro e w1 ⟨rfl, hb1⟩
  have HB1 := Lib.hid (show Below (w.heap.size + 3) (putW w L A c l p) w1 from by have h := hb1; rw [putW_size] at h; exact h)
  obtain ⟨⟨q0, q1⟩, ⟨p0, p1, p2, p3, p4, p5⟩, ⟨r0, r1, f0, f1⟩⟩ := putW_cells HB1.out
  clear hb1
  go_wp2_with fail
  refine (refPacket_any p _).mono ?_
  rintro e w2 ⟨rfl, hb2⟩
  have HB2 := Lib.hid (HB1.out.trans (hb2.mono (by have := HB1.out.size; rw [putW_size] at this; omega)))
  clear q0 q1 p0 p1 p2 p3 p4 p5 r0 r1 f0 f1 hb2
  obtain ⟨⟨q0, q1⟩, ⟨p0, p1, p2, p3, p4, p5⟩, ⟨r0, r1, f0, f1⟩⟩ := putW_cells HB2.out
  go_wp2
  refine bodyPost_ret (v := .tuple #[.agg #[.int .i64 0, .slice none 0 0], .slice none 0 0, .int .i64 (pform p)]) (by simp [results, Try.results23, go_sem, r0, r1]) rfl ⟨PutAns.bad HE.out H2.out, ?_⟩
  exact ((HW.out.trans (HB2.out.mono (by omega))).setCell (by simp; omega) _).setCell (by simp; omega) _

set_option maxHeartbeats 1600000 in
theorem refPut_twice (L : Int) (A : Option Addr) (c : Nat) (l : List Pk) (p : Pk) (w : World) (hr : PkAt w A c l) (h1 : chk L l = 0) (h2 : pform p = 0) (h3 : 0 ≤ idx l p.id) :
    Calls Try.prog 23 #[.agg #[.int .i64 L, .slice A l.length c], .agg #[.int .i64 p.id, .int .i64 p.dst, .int .i64 p.pr, .int .i64 p.born, .int .i64 p.life, .string p.data]] w fun e w' => PutAns w.heap.size w' e L l p ∧ Below w.heap.size w w' := by
  have HR := Lib.hid hr
  have HE := Lib.hid (show putE L l p = 6 by unfold putE; rw [if_neg (by rw [h1]; simp), if_neg (by rw [h2]; simp), if_pos h3])
  have b1 : (chk L l != 0) = false := by simp [h1]
  have b2 : (pform p != 0) = false := by simp [h2]
  have b3 : decide (0 ≤ idx l p.id) = true := by simp [h3]
  have hu24 := Try.underlying24
  have hu30 := Try.underlying30
  have HW := Lib.hid (putW_below w L A c l p)
  clear hr h1 h2 h3
  go_enter Try.func23, Try.ntmps23
  go_wp2_with fail
  refine (refCheck_any L A c l _ (HR.out.row.below HW.out)).mono ?_
  rintro e w1 ⟨rfl, hb1⟩
  have HB1 := Lib.hid (show Below (w.heap.size + 3) (putW w L A c l p) w1 from by have h := hb1; rw [putW_size] at h; exact h)
  obtain ⟨⟨q0, q1⟩, ⟨p0, p1, p2, p3, p4, p5⟩, ⟨r0, r1, f0, f1⟩⟩ := putW_cells HB1.out
  clear hb1
  go_wp2_with fail
  refine (refPacket_any p _).mono ?_
  rintro e w2 ⟨rfl, hb2⟩
  have HB2 := Lib.hid (HB1.out.trans (hb2.mono (by have := HB1.out.size; rw [putW_size] at this; omega)))
  clear q0 q1 p0 p1 p2 p3 p4 p5 r0 r1 f0 f1 hb2
  obtain ⟨⟨q0, q1⟩, ⟨p0, p1, p2, p3, p4, p5⟩, ⟨r0, r1, f0, f1⟩⟩ := putW_cells HB2.out
  go_wp2_with fail
  refine (refIndex_any A c l _ _ (HR.out.row.below (HW.out.trans (HB2.out.mono (by omega))))).mono ?_
  rintro e w3 ⟨rfl, hb3⟩
  have HB3 := Lib.hid (HB2.out.trans (hb3.mono (by have := HB2.out.size; rw [putW_size] at this; omega)))
  clear q0 q1 p0 p1 p2 p3 p4 p5 r0 r1 f0 f1 hb3
  obtain ⟨⟨q0, q1⟩, ⟨p0, p1, p2, p3, p4, p5⟩, ⟨r0, r1, f0, f1⟩⟩ := putW_cells HB3.out
  go_wp2
  refine bodyPost_ret (v := .tuple #[.agg #[.int .i64 0, .slice none 0 0], .slice none 0 0, .int .i64 6]) (by simp [results, Try.results23, go_sem, r0, r1]) rfl ⟨PutAns.bad HE.out (by decide), ?_⟩
  exact ((HW.out.trans (HB3.out.mono (by omega))).setCell (by simp; omega) _).setCell (by simp; omega) _
end Go.Proofs.Ytckanomabhbkaaa
