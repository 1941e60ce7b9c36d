/- The reference's Same over reports, walked. -/
import Derived.Test.YtckanomabhbkaaaDA
import Derived.Test.YtckanomabhbkaaaQA3
namespace Go.Proofs.Ytckanomabhbkaaa
open Go.RowKit
set_option linter.unusedVariables false
def rpEq (p q : Rp) : Bool := p.node == q.node && (p.parent == q.parent && p.num == q.num)
theorem rpEq_iff {p q : Rp} : rpEq p q = true ↔ p = q := by
  constructor
  · intro h
    simp only [rpEq, Bool.and_eq_true, beq_iff_eq] at h
    obtain ⟨h1, h2, h3⟩ := h
    cases p; cases q; simp only at *
    subst h1 h2 h3
    rfl
  · rintro rfl
    simp [rpEq]
theorem eqA70 (d : Nat) (w : World) (p q : Rp) :
    (Op.equalIn (d + 2) 70 (.agg #[.int .i64 p.node, .int .i64 p.parent, .int .i64 p.num]) (.agg #[.int .i64 q.node, .int .i64 q.parent, .int .i64 q.num])).run Try.prog w = .ok (rpEq p q) w := by
  refine eqA_of Try.underlying70 (by kernel_rfl) ?_
  unfold rpEq
  refine eqf_cons (by rfl) (by go_simp; rfl) (by go_simp; rfl) (by go_simp) ?_
  refine eqf_cons (by rfl) (by go_simp; rfl) (by go_simp; rfl) (by go_simp) ?_
  exact eqf_last (by rfl) (by go_simp; rfl) (by go_simp; rfl) (by go_simp)
/-- Two rows are alike, element by element. -/
def sameRp (a b : List Rp) : Bool := a.length == b.length && (List.zip a b).all (fun x => rpEq x.1 x.2)
theorem sameRp_iff {a b : List Rp} : sameRp a b = true ↔ a = b := by
  induction a generalizing b with
  | nil => cases b <;> simp [sameRp]
  | cons x a ih =>
    cases b with
    | nil => simp [sameRp]
    | cons y b =>
      have := ih (b := b)
      simp only [sameRp, Bool.and_eq_true, beq_iff_eq, List.length_cons, List.zip_cons_cons, List.all_cons, List.cons.injEq, rpEq_iff] at this ⊢
      rw [← this]
      constructor
      · rintro ⟨h1, h2, h3⟩; exact ⟨h2, by omega, h3⟩
      · rintro ⟨h2, h1, h3⟩; exact ⟨by omega, h2, h3⟩
theorem sameRp_no {a b : List Rp} {i : Int} (h0 : 0 ≤ i) (h1 : i < a.length) (h2 : i < b.length) (hne : rpEq (gr a i) (gr b i) = false) : false = sameRp a b := by
  symm
  rw [← Bool.not_eq_true]
  intro h
  rw [sameRp_iff] at h
  subst h
  rw [rpEq_iff.2 rfl] at hne
  cases hne
theorem sameRp_len {a b : List Rp} (h : a.length ≠ b.length) : false = sameRp a b := by
  symm
  rw [← Bool.not_eq_true]
  intro h2
  rw [sameRp_iff] at h2
  exact h (by rw [h2])
theorem sameRp_yes {a b : List Rp} (hl : a.length = b.length) (h : ∀ j : Int, 0 ≤ j → j < a.length → rpEq (gr a j) (gr b j) = true) : true = sameRp a b := by
  symm
  rw [sameRp_iff]
  apply List.ext_getElem hl
  intro n h1 h2
  have := rpEq_iff.1 (h n (by omega) (by omega))
  simp only [gr, Int.toNat_natCast, List.getD_eq_getElem?_getD, List.getElem?_eq_getElem h1, List.getElem?_eq_getElem h2, Option.getD_some] at this
  exact this

attribute [local go_sem high] eqA70
set_option maxHeartbeats 800000 in
theorem refSame_any (A : Option Addr) (c : Nat) (l : List Rp) (A2 : Option Addr) (c2 : Nat) (l2 : List Rp) (w : World) (hr : RowAt Rp.cells 3 w A l) (hr2 : RowAt Rp.cells 3 w A2 l2) :
    Calls Try.prog 49 #[.slice A l.length c, .slice A2 l2.length c2] w fun e w' => e = .returned (.bool (sameRp l l2)) ∧ Below w.heap.size w w' := by
  have HR := Lib.hid hr
  have HR2 := Lib.hid hr2
  have hb := hr.1
  have hb2 := hr2.1
  have hu70 := Try.underlying70
  clear hr hr2
  by_cases hl : l.length = l2.length
  · have b1 : ((l.length : Int) == (l2.length : Int)) = true := by simp [hl]
    have b2 : ((l.length : Int) != (l2.length : Int)) = false := by simp [hl]
    have b3 : (l.length == l2.length) = true := by simp [hl]
    have HL := Lib.hid hl
    clear hl
    go_enter Try.func49, Try.ntmps49
    go_wp2
    go_loopw [5] (fun v wr => ∃ i : Int, v = .int .i64 i ∧ 0 ≤ i ∧ i ≤ l.length ∧ Hid (∀ j : Int, 0 ≤ j → j < i → rpEq (gr l j) (gr l2 j) = true) ∧ Below w.heap.size w wr) (fun v _ => (l.length - (intOf v)).toNat)
    case atStart => exact ⟨0, rfl, by omega, by omega, fun j h0 h1 => by omega, Below.refl _ _⟩
    case round =>
      obtain ⟨i, rfl, h0, hle, HN, HB⟩ := hrel
      clear b1 b2 b3
      by_cases hlt : i < l.length
      · have hlt2 : i < l2.length := by have := HL.out; omega
        obtain ⟨ad, rfl, c0, c1, c2⟩ := (HR.out.below HB).rp i h0 hlt
        obtain ⟨ad2, rfl, d0, d1, d2⟩ := (HR2.out.below HB).rp i h0 hlt2
        obtain ⟨x, hx⟩ : ∃ x, rpEq (gr l i) (gr l2 i) = x := ⟨_, rfl⟩
        cases x
        · go_wp2
          repeat (go_quiet (fail); try go_wp2)
          go_ret
          exact ⟨ret_bool (sameRp_no h0 hlt hlt2 hx), by repeat (first | exact HB | apply Below.drew | apply blw_drewN)⟩
        · go_wp2
          repeat (go_quiet (fail); try go_wp2)
          go_roundw
          case rel => exact ⟨i + 1, rfl, by omega, by omega, fun j a b => by
            by_cases hj : j = i
            · rw [hj]; exact hx
            · exact HN.out j a (by omega), by repeat (first | exact HB | apply Below.drew | apply blw_drewN)⟩
          case measure => simp [intOf]; omega
      · go_wp2
        go_ret
        exact ⟨ret_bool (sameRp_yes HL.out fun j a b => HN.out j a (by omega)), HB⟩
  · have b1 : ((l.length : Int) == (l2.length : Int)) = false := by simp; omega
    have b2 : ((l.length : Int) != (l2.length : Int)) = true := by simp; omega
    have b3 : (l.length == l2.length) = false := by simp [hl]
    go_enter Try.func49, Try.ntmps49
    go_wp2
    go_ret
    exact ⟨ret_bool (sameRp_len hl), Below.refl _ _⟩
end Go.Proofs.Ytckanomabhbkaaa
