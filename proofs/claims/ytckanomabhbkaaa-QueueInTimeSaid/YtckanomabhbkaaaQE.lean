/- Rows of departures held against each other. -/
import Derived.Test.YtckanomabhbkaaaQA3
import Derived.Test.YtckanomabhbkaaaQV
import Derived.Maps.RangeWalk
namespace Go.Proofs.Ytckanomabhbkaaa
open Go.RowKit
set_option linter.unusedVariables false

def dpEq (p q : Dp) : Bool := p.id == q.id && (p.slot == q.slot && p.dropped == q.dropped)
theorem dpEq_iff {p q : Dp} : dpEq p q = true ↔ p = q := by
  constructor
  · intro h
    simp only [dpEq, Bool.and_eq_true, beq_iff_eq] at h
    obtain ⟨h1, h2, h3⟩ := h
    cases p; cases q; simp only at *
    subst h1 h2 h3; rfl
  · rintro rfl
    simp [dpEq]
theorem eqA46 (d : Nat) (w : World) (p q : Dp) :
    (Op.equalIn (d + 2) 46 (.agg #[.int .i64 p.id, .int .i64 p.slot, .bool p.dropped]) (.agg #[.int .i64 q.id, .int .i64 q.slot, .bool q.dropped])).run Try.prog w = .ok (dpEq p q) w := by
  refine eqA_of Try.underlying46 (by kernel_rfl) ?_
  unfold dpEq
  refine eqf_cons (by rfl) (by go_simp; rfl) (by go_simp; rfl) (by go_simp) ?_
  refine eqf_cons (by rfl) (by go_simp; rfl) (by go_simp; rfl) (by go_simp) ?_
  exact eqf_last (by rfl) (by go_simp; rfl) (by go_simp; rfl) (by go_simp)
def gd (l : List Dp) (i : Int) : Dp := l.getD i.toNat ⟨0, 0, false⟩
theorem gd_get {l : List Dp} {i : Int} (h0 : 0 ≤ i) (h1 : i < l.length) : l[i.toNat]? = some (gd l i) := by
  unfold gd
  have : i.toNat < l.length := by omega
  rw [List.getD_eq_getElem?_getD, List.getElem?_eq_getElem this]; rfl
theorem RowAt.dp {w : World} {A : Option Addr} {l : List Dp} (h : RowAt Dp.cells 3 w A l) (i : Int) (h0 : 0 ≤ i) (h1 : i < l.length) :
    ∃ ad, A = some ad ∧ w.cell? (ad.add (i.toNat * 3)) = some (.int .i64 (gd l i).id) ∧ w.cell? ⟨(ad.add (i.toNat * 3)).block, (ad.add (i.toNat * 3)).off + 1, none⟩ = some (.int .i64 (gd l i).slot) ∧ w.cell? ⟨(ad.add (i.toNat * 3)).block, (ad.add (i.toNat * 3)).off + 2, none⟩ = some (.bool (gd l i).dropped) := by
  obtain ⟨ad, e, hc⟩ := h.2 (by omega)
  have hc := hc _ _ (gd_get h0 h1)
  exact ⟨ad, e, hc 0 _ rfl, by rw [← add_field _ _ 1 (by omega)]; exact hc 1 _ rfl, by rw [← add_field _ _ 2 (by omega)]; exact hc 2 _ rfl⟩
def sameDp (a b : List Dp) : Bool := a.length == b.length && (List.zip a b).all (fun x => dpEq x.1 x.2)
theorem sameDp_iff {a b : List Dp} : sameDp a b = true ↔ a = b := by
  induction a generalizing b with
  | nil => cases b <;> simp [sameDp]
  | cons x a ih =>
    cases b with
    | nil => simp [sameDp]
    | cons y b =>
      have := ih (b := b)
      simp only [sameDp, Bool.and_eq_true, beq_iff_eq, List.length_cons, List.zip_cons_cons, List.all_cons, List.cons.injEq, dpEq_iff] at this ⊢
      rw [← this]
      constructor
      · rintro ⟨h1, h2, h3⟩; exact ⟨h2, by omega, h3⟩
      · rintro ⟨h2, h1, h3⟩; exact ⟨by omega, h2, h3⟩
theorem sameDp_no {a b : List Dp} {i : Int} (h0 : 0 ≤ i) (h1 : i < a.length) (h2 : i < b.length) (hne : dpEq (gd a i) (gd b i) = false) : false = sameDp a b := by
  symm
  rw [← Bool.not_eq_true]
  intro h
  rw [sameDp_iff] at h
  subst h
  rw [dpEq_iff.2 rfl] at hne
  cases hne
theorem sameDp_len {a b : List Dp} (h : a.length ≠ b.length) : false = sameDp a b := by
  symm
  rw [← Bool.not_eq_true]
  intro h2
  rw [sameDp_iff] at h2
  exact h (by rw [h2])
theorem sameDp_yes {a b : List Dp} (hl : a.length = b.length) (h : ∀ j : Int, 0 ≤ j → j < a.length → dpEq (gd a j) (gd b j) = true) : true = sameDp a b := by
  symm
  rw [sameDp_iff]
  apply List.ext_getElem hl
  intro n h1 h2
  have := dpEq_iff.1 (h n (by omega) (by omega))
  simp only [gd, Int.toNat_natCast, List.getD_eq_getElem?_getD, List.getElem?_eq_getElem h1, List.getElem?_eq_getElem h2, Option.getD_some] at this
  exact this

attribute [local go_sem high] eqA46
set_option maxHeartbeats 800000 in
theorem equalDp_any (A : Option Addr) (c : Nat) (l : List Dp) (A2 : Option Addr) (c2 : Nat) (l2 : List Dp) (w : World) (hr : RowAt Dp.cells 3 w A l) (hr2 : RowAt Dp.cells 3 w A2 l2) :
    Calls Try.prog 32 #[.slice A l.length c, .slice A2 l2.length c2] w fun e w' => e = .returned (.bool (sameDp l l2)) ∧ Below w.heap.size w w' := by
  have HR := Lib.hid hr
  have HR2 := Lib.hid hr2
  have hb := hr.1
  have hb2 := hr2.1
  have hu46 := Try.underlying46
  clear hr hr2
  by_cases hl : l.length = l2.length
  · have b1 : ((l.length : Int) == (l2.length : Int)) = true := by simp [hl]
    have b2 : ((l.length : Int) != (l2.length : Int)) = false := by simp [hl]
    have b3 : (l.length == l2.length) = true := by simp [hl]
    have HL := Lib.hid hl
    clear hl
    go_enter Try.func32, Try.ntmps32
    go_wp2
    go_loopw [5, 13] (fun u v wr => ∃ i : Int, v = .int .i64 i ∧ 0 ≤ i ∧ i ≤ l.length ∧ Hid (∀ j : Int, 0 ≤ j → j < i → dpEq (gd l j) (gd l2 j) = true) ∧ Below w.heap.size w wr) (fun u v _ => (l.length - (intOf v)).toNat)
    case atStart => exact ⟨0, rfl, by omega, by omega, fun j h0 h1 => by omega, Below.refl _ _⟩
    case round =>
      obtain ⟨i, rfl, h0, hle, HN, HB⟩ := hrel
      clear b1 b2 b3
      by_cases hlt : i < l.length
      · have hlt2 : i < l2.length := by have := HL.out; omega
        obtain ⟨ad, rfl, c0, c1, c2⟩ := (HR.out.below HB).dp i h0 hlt
        obtain ⟨ad2, rfl, d0, d1, d2⟩ := (HR2.out.below HB).dp i h0 hlt2
        obtain ⟨x, hx⟩ : ∃ x, dpEq (gd l i) (gd l2 i) = x := ⟨_, rfl⟩
        cases x
        · go_wp2
          repeat (go_quiet (fail); try go_wp2)
          go_ret
          exact ⟨ret_bool (sameDp_no h0 hlt hlt2 hx), by repeat (first | exact HB | apply Below.drew | apply blw_drewN)⟩
        · go_wp2
          repeat (go_quiet (fail); try go_wp2)
          go_roundw
          case rel => exact ⟨i + 1, rfl, by omega, by omega, fun j a b => by
            by_cases hj : j = i
            · rw [hj]; exact hx
            · exact HN.out j a (by omega), by repeat (first | exact HB | apply Below.drew | apply blw_drewN)⟩
          case measure => simp [intOf]; omega
      · go_wp2
        go_ret
        exact ⟨ret_bool (sameDp_yes HL.out fun j a b => HN.out j a (by omega)), HB⟩
  · have b1 : ((l.length : Int) == (l2.length : Int)) = false := by simp; omega
    have b2 : ((l.length : Int) != (l2.length : Int)) = true := by simp; omega
    have b3 : (l.length == l2.length) = false := by simp [hl]
    go_enter Try.func32, Try.ntmps32
    go_wp2
    go_ret
    exact ⟨ret_bool (sameDp_len hl), Below.refl _ _⟩
end Go.Proofs.Ytckanomabhbkaaa
