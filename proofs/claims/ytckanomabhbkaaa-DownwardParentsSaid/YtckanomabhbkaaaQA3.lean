/- Packets held against each other; rows of packets held against each other. -/
import Derived.Test.YtckanomabhbkaaaQA2
import Derived.Laws.StructEq
import Derived.KernelRfl
namespace Go.Proofs.Ytckanomabhbkaaa
open Go.RowKit
set_option linter.unusedVariables false

section
variable {P : Program} {d : Nat} {xs ys : Array Value} {f : Field} {fs : List Field} {a b : Value} {r s : Bool} {w : World}
theorem eqf_last (hn : (f.name == "_") = false) (ha : (part f.type xs f.offset).run P w = .ok a w) (hb : (part f.type ys f.offset).run P w = .ok b w) (he : (Op.equalIn d f.type a b).run P w = .ok r w) : (Op.eqFields d xs ys [f]).run P w = .ok r w := by
  have hn' : f.name ≠ "_" := by simpa using hn
  simp only [Op.eqFields, if_pos hn', Sem.run_bind, ha, hb, he, Result.andThen_ok]
  cases r <;> simp
theorem eqf_cons (hn : (f.name == "_") = false) (ha : (part f.type xs f.offset).run P w = .ok a w) (hb : (part f.type ys f.offset).run P w = .ok b w) (he : (Op.equalIn d f.type a b).run P w = .ok r w) (hr : (Op.eqFields d xs ys fs).run P w = .ok s w) : (Op.eqFields d xs ys (f :: fs)).run P w = .ok (r && s) w := by
  have hn' : f.name ≠ "_" := by simpa using hn
  rw [Op.eqFields]
  simp only [if_pos hn', Sem.run_bind, ha, hb, he, Result.andThen_ok]
  cases r
  · simp
  · simpa using hr
theorem eqA_of {t : TypeId} {fs : Array Field} (hu : P.underlying t = some (.struct fs)) (hp : P.stoodInHeld t = false) (h : (Op.eqFields d xs ys fs.toList).run P w = .ok r w) : (Op.equalIn (d + 1) t (.agg xs) (.agg ys)).run P w = .ok r w := by
  have hf : P.fieldsOf t = fs := by simp [Program.fieldsOf, hu]
  rw [run_equalIn_struct (P := P) w d t xs ys (by rw [hf]; exact hu) hp, hf]
  exact h
end
def pkEq (p q : Pk) : Bool := p.id == q.id && (p.dst == q.dst && (p.pr == q.pr && (p.born == q.born && (p.life == q.life && p.data.toList == q.data.toList))))
theorem bytes_ext {a b : ByteArray} (h : a.toList = b.toList) : a = b := by
  have h2 : a.data.toList = b.data.toList := by
    rw [← ByteArray.toList_eq a, ← ByteArray.toList_eq b, h]
  cases a; cases b; simp_all [Array.toList_inj]
theorem pkEq_iff {p q : Pk} : pkEq p q = true ↔ p = q := by
  constructor
  · intro h
    simp only [pkEq, Bool.and_eq_true, beq_iff_eq] at h
    obtain ⟨h1, h2, h3, h4, h5, h6⟩ := h
    cases p; cases q; simp only at *
    subst h1 h2 h3 h4 h5
    rw [bytes_ext h6]
  · rintro rfl
    simp [pkEq]
theorem eqA30 (d : Nat) (w : World) (p q : Pk) :
    (Op.equalIn (d + 2) 30 (.agg #[.int .i64 p.id, .int .i64 p.dst, .int .i64 p.pr, .int .i64 p.born, .int .i64 p.life, .string p.data]) (.agg #[.int .i64 q.id, .int .i64 q.dst, .int .i64 q.pr, .int .i64 q.born, .int .i64 q.life, .string q.data])).run Try.prog w = .ok (pkEq p q) w := by
  refine eqA_of Try.underlying30 (by kernel_rfl) ?_
  unfold pkEq
  refine eqf_cons (by rfl) (by go_simp; rfl) (by go_simp; rfl) (by go_simp) ?_
  refine eqf_cons (by rfl) (by go_simp; rfl) (by go_simp; rfl) (by go_simp) ?_
  refine eqf_cons (by rfl) (by go_simp; rfl) (by go_simp; rfl) (by go_simp) ?_
  refine eqf_cons (by rfl) (by go_simp; rfl) (by go_simp; rfl) (by go_simp) ?_
  refine eqf_cons (by rfl) (by go_simp; rfl) (by go_simp; rfl) (by go_simp) ?_
  exact eqf_last (by rfl) (by go_simp; rfl) (by go_simp; rfl) (by go_simp)

/-- Two rows are alike, element by element. -/
def samePk (a b : List Pk) : Bool := a.length == b.length && (List.zip a b).all (fun x => pkEq x.1 x.2)
theorem samePk_iff {a b : List Pk} : samePk a b = true ↔ a = b := by
  induction a generalizing b with
  | nil => cases b <;> simp [samePk]
  | cons x a ih =>
    cases b with
    | nil => simp [samePk]
    | cons y b =>
      have := ih (b := b)
      simp only [samePk, Bool.and_eq_true, beq_iff_eq, List.length_cons, List.zip_cons_cons, List.all_cons, List.cons.injEq, pkEq_iff] at this ⊢
      rw [← this]
      constructor
      · rintro ⟨h1, h2, h3⟩; exact ⟨h2, by omega, h3⟩
      · rintro ⟨h2, h1, h3⟩; exact ⟨by omega, h2, h3⟩
theorem samePk_no {a b : List Pk} {i : Int} (h0 : 0 ≤ i) (h1 : i < a.length) (h2 : i < b.length) (hne : pkEq (gp a i) (gp b i) = false) : false = samePk a b := by
  symm
  rw [← Bool.not_eq_true]
  intro h
  rw [samePk_iff] at h
  subst h
  rw [pkEq_iff.2 rfl] at hne
  cases hne
theorem samePk_len {a b : List Pk} (h : a.length ≠ b.length) : false = samePk a b := by
  symm
  rw [← Bool.not_eq_true]
  intro h2
  rw [samePk_iff] at h2
  exact h (by rw [h2])
theorem samePk_yes {a b : List Pk} (hl : a.length = b.length) (h : ∀ j : Int, 0 ≤ j → j < a.length → pkEq (gp a j) (gp b j) = true) : true = samePk a b := by
  symm
  rw [samePk_iff]
  apply List.ext_getElem hl
  intro n h1 h2
  have := pkEq_iff.1 (h n (by omega) (by omega))
  simp only [gp, Int.toNat_natCast, List.getD_eq_getElem?_getD, List.getElem?_eq_getElem h1, List.getElem?_eq_getElem h2, Option.getD_some] at this
  exact this

attribute [local go_sem high] eqA30
set_option maxHeartbeats 800000 in
theorem samePackets_any (A : Option Addr) (c : Nat) (l : List Pk) (A2 : Option Addr) (c2 : Nat) (l2 : List Pk) (w : World) (hr : RowAt Pk.cells 6 w A l) (hr2 : RowAt Pk.cells 6 w A2 l2) :
    Calls Try.prog 25 #[.slice A l.length c, .slice A2 l2.length c2] w fun e w' => e = .returned (.bool (samePk l l2)) ∧ Below w.heap.size w w' := by
  have HR := Lib.hid hr
  have HR2 := Lib.hid hr2
  have hb := hr.1
  have hb2 := hr2.1
  have hu30 := Try.underlying30
  clear hr hr2
  by_cases hl : l.length = l2.length
  · have b1 : ((l.length : Int) == (l2.length : Int)) = true := by simp [hl]
    have b2 : ((l.length : Int) != (l2.length : Int)) = false := by simp [hl]
    have b3 : (l.length == l2.length) = true := by simp [hl]
    have HL := Lib.hid hl
    clear hl
    go_enter Try.func25, Try.ntmps25
    go_wp2
    go_loopw [5] (fun v wr => ∃ i : Int, v = .int .i64 i ∧ 0 ≤ i ∧ i ≤ l.length ∧ Hid (∀ j : Int, 0 ≤ j → j < i → pkEq (gp l j) (gp l2 j) = true) ∧ Below w.heap.size w wr) (fun v _ => (l.length - (intOf v)).toNat)
    case atStart => exact ⟨0, rfl, by omega, by omega, fun j h0 h1 => by omega, Below.refl _ _⟩
    case round =>
      obtain ⟨i, rfl, h0, hle, HN, HB⟩ := hrel
      clear b1 b2 b3
      by_cases hlt : i < l.length
      · have hlt2 : i < l2.length := by have := HL.out; omega
        obtain ⟨ad, rfl, c0, c1, c2, c3, c4, c5⟩ := (HR.out.below HB).pk i h0 hlt
        obtain ⟨ad2, rfl, d0, d1, d2, d3, d4, d5⟩ := (HR2.out.below HB).pk i h0 hlt2
        obtain ⟨x, hx⟩ : ∃ x, pkEq (gp l i) (gp l2 i) = x := ⟨_, rfl⟩
        cases x
        · go_wp2
          repeat (go_quiet (fail); try go_wp2)
          go_ret
          exact ⟨ret_bool (samePk_no h0 hlt hlt2 hx), by repeat (first | exact HB | apply Below.drew | apply blw_drewN)⟩
        · go_wp2
          repeat (go_quiet (fail); try go_wp2)
          go_roundw
          case rel => exact ⟨i + 1, rfl, by omega, by omega, fun j a b => by
            by_cases hj : j = i
            · rw [hj]; exact hx
            · exact HN.out j a (by omega), by repeat (first | exact HB | apply Below.drew | apply blw_drewN)⟩
          case measure => simp [intOf]; omega
      · go_wp2
        go_ret
        exact ⟨ret_bool (samePk_yes HL.out fun j a b => HN.out j a (by omega)), HB⟩
  · have b1 : ((l.length : Int) == (l2.length : Int)) = false := by simp; omega
    have b2 : ((l.length : Int) != (l2.length : Int)) = true := by simp; omega
    have b3 : (l.length == l2.length) = false := by simp [hl]
    go_enter Try.func25, Try.ntmps25
    go_wp2
    go_ret
    exact ⟨ret_bool (samePk_len hl), Below.refl _ _⟩
end Go.Proofs.Ytckanomabhbkaaa
