/- Has of the reference; rows of bytes. -/
import Derived.Test.YtckanomabhbkaaaDT
import Derived.Deep.Slices
import Derived.Lib.BufferRead
namespace Go.Proofs.Ytckanomabhbkaaa
open Go.RowKit Go.Shelf
set_option linter.unusedVariables false
theorem RowAt.takeN {α : Type} {enc : α → List Value} {m : Nat} {w : World} {A : Option Addr} {l : List α} (h : RowAt enc m w A l) (k : Nat) : RowAt enc m w A (l.take k) := by
  refine ⟨by rw [List.length_take]; have := h.1; omega, fun hn => ?_⟩
  rw [List.length_take] at hn
  obtain ⟨ad, e, hc⟩ := h.2 (by omega)
  refine ⟨ad, e, fun i x hx j v hv => hc i x ?_ j v hv⟩
  rw [List.getElem?_take] at hx
  by_cases hi : i < k
  · rwa [if_pos hi] at hx
  · rw [if_neg hi] at hx; cases hx
theorem RowAt.dropN {α : Type} {enc : α → List Value} {m : Nat} {w : World} {ad : Addr} {l : List α} (h : RowAt enc m w (some ad) l) (i : Nat) : RowAt enc m w (some (ad.add (i * m))) (l.drop i) := by
  refine ⟨by rw [List.length_drop]; have := h.1; omega, fun hn => ⟨_, rfl, fun k x hx j v hv => ?_⟩⟩
  rw [List.length_drop] at hn
  obtain ⟨ad', e, hc⟩ := h.2 (by omega)
  cases e
  rw [List.getElem?_drop] at hx
  have := hc (i + k) x hx j v hv
  rw [Go.Deep.add_add, show i * m + (k * m + j) = (i + k) * m + j from by rw [Nat.add_mul]; omega]
  exact this
def memB (l : List Int) (n : Int) : Bool := decide (n ∈ l)
theorem memB_hit {l : List Int} {n : Int} {i : Nat} (h : i < l.length) (he : l.getD i 0 = n) : memB l n = true := by
  unfold memB
  rw [decide_eq_true_iff, ← he, List.getD_eq_getElem?_getD, List.getElem?_eq_getElem h]
  exact List.getElem_mem _
theorem memB_miss {l : List Int} {n : Int} (h : ∀ j : Nat, j < l.length → l.getD j 0 ≠ n) : memB l n = false := by
  unfold memB
  rw [decide_eq_false_iff_not]
  intro hm
  obtain ⟨j, hj, e⟩ := List.getElem_of_mem hm
  refine h j hj ?_
  rw [List.getD_eq_getElem?_getD, List.getElem?_eq_getElem hj]; exact e
set_option maxHeartbeats 800000 in
theorem has_any (A : Option Addr) (N c : Nat) (l : List Int) (n : Int) (w : World) (hN : N = l.length) (hr : RowAt intc 1 w A l) :
    Calls Try.prog 96 #[.slice A N c, .int .i64 n] w fun e w' => e = .returned (.bool (memB l n)) ∧ w = w' := by
  subst hN
  have HR := Lib.hid hr
  have hb := hr.1
  clear hr
  go_enter Try.func96, Try.ntmps96
  go_wp2
  go_loop [5] (fun v => ∃ i : Nat, v = .int .i64 i ∧ i ≤ l.length ∧ Hid (∀ j : Nat, j < i → l.getD j 0 ≠ n)) (fun v => (l.length - (intOf v)).toNat)
  case atStart => exact ⟨0, rfl, by omega, fun j h => by omega⟩
  case round =>
    obtain ⟨i, rfl, hle, HN⟩ := hrel
    by_cases hlt : i < l.length
    · obtain ⟨ad, rfl, c0⟩ := HR.out.int i hlt
      have g1 : (0 : Int) ≤ i := by omega
      have g2 : (i : Int) < l.length := by omega
      have bl : decide ((i : Int) < l.length) = true := by simp; omega
      obtain ⟨x, hx⟩ : ∃ x, l.getD i 0 = x := ⟨_, rfl⟩
      rw [hx] at c0
      have HX := Lib.hid hx
      clear hx
      by_cases hp : x = n
      · have b1 : (x == n) = true := by simp [hp]
        have HF := Lib.hid (memB_hit hlt (HX.out.trans hp))
        clear hp
        go_wp2
        go_ret
        exact ⟨ret_bool HF.out.symm, rfl⟩
      · have b1 : (x == n) = false := by simp [hp]
        have HN2 := Lib.hid (show ∀ j : Nat, j < i + 1 → l.getD j 0 ≠ n from fun j hj => by
          by_cases e : j = i
          · subst e; rw [HX.out]; exact hp
          · exact HN.out j (by omega))
        clear hp
        go_wp2
        go_round
        case rel => exact ⟨i + 1, by simp, by omega, HN2⟩
        case measure => simp [intOf]; omega
    · have bl : decide ((i : Int) < l.length) = false := by simp; omega
      obtain rfl : i = l.length := by omega
      have HF := Lib.hid (memB_miss HN.out)
      go_wp2
      go_ret
      exact ⟨ret_bool HF.out.symm, rfl⟩
def byc (b : UInt8) : List Value := [.int .u8 (b.toNat : Int)]
theorem byc_len (b : UInt8) : (byc b).length = 1 := rfl
theorem byc_one (b : UInt8) : ∀ u ∈ byc b, u.oneCell' = true := by
  intro u hu
  simp only [byc, List.mem_cons, List.not_mem_nil, or_false] at hu
  subst hu; rfl
theorem info5 : (Try.prog.info? 5).map (fun i => (i.zero, i.size, i.bytes)) = some (some (.int .u8 0), 1, 1) := by kernel_rfl
/-- 'string(b)' of a row of bytes. -/
theorem conv_row {w : World} {A : Option Addr} {c : Nat} {l : List UInt8} (h : RowAt byc 1 w A l) : (convert 82 9 (.slice A l.length c)).run Try.prog w = .ok (.string ⟨l.toArray⟩) w := by
  cases A with
  | none =>
    have hl : l = [] := by
      cases l with
      | nil => rfl
      | cons x l => obtain ⟨ad, e, _⟩ := h.2 (by simp); cases e
    subst hl
    exact Lib.run_convert_nil_bytes w 82 9 5 c Try.underlying82 Try.underlying5 Try.underlying9
  | some ad =>
    refine run_convert_bytes_back w 82 9 5 ad c l Try.underlying82 Try.underlying5 Try.underlying9 (fun j hj => ?_)
    obtain ⟨ad', e, hc⟩ := h.2 (by omega)
    cases e
    have := hc j _ (List.getElem?_eq_getElem hj) 0 _ rfl
    rwa [Nat.mul_one, Nat.add_zero] at this
end Go.Proofs.Ytckanomabhbkaaa
