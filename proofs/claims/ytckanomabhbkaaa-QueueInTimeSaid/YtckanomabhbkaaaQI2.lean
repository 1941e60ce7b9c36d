/- The callers of slices.IndexFunc over packets: index, first; the place of a new packet. -/
import Derived.Test.YtckanomabhbkaaaQI
import Derived.Test.YtckanomabhbkaaaQSpec
namespace Go.Proofs.Ytckanomabhbkaaa
open Go.RowKit Go.Shelf
set_option linter.unusedVariables false

theorem idp_pred (B : Nat) (id : Int) (w : World) (hB : B < w.heap.size) (hc : w.cell? ⟨B, 0, none⟩ = some (.int .i64 id)) : PredB 103 #[.pointer (some ⟨B, 0, none⟩)] (idp id) w := by
  intro W x hb
  have hc' : W.cell? ⟨B, 0, none⟩ = some (.int .i64 id) := (hb.cell (p := ⟨B, 0, none⟩) hB).trans hc
  have hlt : B < W.heap.size := cell_lt hc'
  have hne : ¬ B = W.heap.size := by omega
  clear hc
  show Calls Try.prog 103 #[.agg #[.int .i64 x.id, .int .i64 x.dst, .int .i64 x.pr, .int .i64 x.born, .int .i64 x.life, .string x.data], .pointer (some ⟨B, 0, none⟩)] W _
  go_enter Try.func103, Try.ntmps103
  go_wp2
  go_ret
  exact ⟨rfl, hb.alloc hb.size _⟩
theorem top_pred (B : Nat) (tt : Int) (w : World) (hB : B < w.heap.size) (hc : w.cell? ⟨B, 0, none⟩ = some (.int .i64 tt)) : PredB 106 #[.pointer (some ⟨B, 0, none⟩)] (top tt) w := by
  intro W x hb
  have hc' : W.cell? ⟨B, 0, none⟩ = some (.int .i64 tt) := (hb.cell (p := ⟨B, 0, none⟩) hB).trans hc
  have hlt : B < W.heap.size := cell_lt hc'
  have hne : ¬ B = W.heap.size := by omega
  clear hc
  show Calls Try.prog 106 #[.agg #[.int .i64 x.id, .int .i64 x.dst, .int .i64 x.pr, .int .i64 x.born, .int .i64 x.life, .string x.data], .pointer (some ⟨B, 0, none⟩)] W _
  go_enter Try.func106, Try.ntmps106
  go_wp2
  go_ret
  exact ⟨rfl, hb.alloc hb.size _⟩
theorem above_pred (B : Nat) (pr : Int) (w : World) (hB : B < w.heap.size) (hc : w.cell? ⟨B, 2, none⟩ = some (.int .i64 pr)) : PredB 77 #[.pointer (some ⟨B, 0, none⟩)] (abovep pr) w := by
  intro W x hb
  have hc' : W.cell? ⟨B, 2, none⟩ = some (.int .i64 pr) := (hb.cell (p := ⟨B, 2, none⟩) hB).trans hc
  have hlt : B < W.heap.size := cell_lt hc'
  have hne : ¬ B = W.heap.size := by omega
  clear hc
  show Calls Try.prog 77 #[.agg #[.int .i64 x.id, .int .i64 x.dst, .int .i64 x.pr, .int .i64 x.born, .int .i64 x.life, .string x.data], .pointer (some ⟨B, 0, none⟩)] W _
  go_enter Try.func77, Try.ntmps77
  go_wp2
  go_ret
  exact ⟨rfl, hb.alloc hb.size _⟩

set_option maxHeartbeats 800000 in
theorem index_any (L : Int) (A : Option Addr) (c : Nat) (l : List Pk) (id : Int) (w : World) (hr : RowAt Pk.cells 6 w A l) :
    Calls Try.prog 74 #[.agg #[.int .i64 L, .slice A l.length c], .int .i64 id] w fun e w' => e = .returned (.int .i64 (idx l id)) ∧ Below w.heap.size w w' := by
  have HR := Lib.hid hr
  clear hr
  have hu24 := Try.underlying24
  have hbl : Below w.heap.size w ((w.alloc (.cells #[.int .i64 L, .slice A l.length c] 24)).alloc (.cells #[.int .i64 id] 3)) := ((Below.refl _ _).alloc (Nat.le_refl _) _).alloc (by simp) _
  have HB := Lib.hid hbl
  clear hbl
  go_enter Try.func74, Try.ntmps74
  go_wp2_with (go_at_call 76; refine (indexFunc_any (idp id) 103 _ _ _ _ _ (HR.out.below HB.out) (enters_of Try.func103 (by kernel_rfl) rfl) (idp_pred _ id _ (by simp) (by simp))).mono ?_; rintro e w' ⟨rfl, hb'⟩)
  go_ret
  exact ⟨rfl, HB.out.trans (Below.mono (by assumption) (by simp; omega))⟩
set_option maxHeartbeats 800000 in
theorem first_any (A : Option Addr) (c : Nat) (l : List Pk) (tt : Int) (w : World) (hr : RowAt Pk.cells 6 w A l) :
    Calls Try.prog 82 #[.slice A l.length c, .int .i64 tt] w fun e w' => e = .returned (.int .i64 (fidx (top tt) l)) ∧ Below w.heap.size w w' := by
  have HR := Lib.hid hr
  clear hr
  have hbl : Below w.heap.size w (w.alloc (.cells #[.int .i64 tt] 3)) := (Below.refl _ _).alloc (Nat.le_refl _) _
  have HB := Lib.hid hbl
  clear hbl
  go_enter Try.func82, Try.ntmps82
  go_wp2_with (go_at_call 76; refine (indexFunc_any (top tt) 106 _ _ _ _ _ (HR.out.below HB.out) (enters_of Try.func106 (by kernel_rfl) rfl) (top_pred _ tt _ (by simp) (by simp))).mono ?_; rintro e w' ⟨rfl, hb'⟩)
  go_ret
  exact ⟨rfl, HB.out.trans (Below.mono (by assumption) (by simp))⟩
end Go.Proofs.Ytckanomabhbkaaa
