/- Route of the program, walked. -/
import Derived.Test.YtckanomabhbkaaaRD
import Derived.WalkSpells
namespace Go.Proofs.Ytckanomabhbkaaa
open Go.RowKit Go.Shelf
set_option linter.unusedVariables false
/-- The answer of Route. -/
def RouteAns (B : Nat) (w' : World) (e : Ending) (l : List Rp) (n : Int) : Prop :=
  ∃ A c, e = .returned (.tuple #[.slice A (routeA l n).length c, .int .i64 (routeE l n)]) ∧ IntsAt B w' A c (routeA l n)
theorem RouteAns.bad {B : Nat} {w' : World} {l : List Rp} {n : Int} {E : Int} (h : routeE l n = E) (h0 : E ≠ 0) : RouteAns B w' (.returned (.tuple #[.slice none 0 0, .int .i64 E])) l n := by
  have : routeA l n = [] := by unfold routeA; rw [if_neg (by rw [h]; exact h0)]
  exact ⟨none, 0, by rw [this, h]; rfl, by rw [this]; exact IntsAt.zero _ _⟩
theorem RouteAns.good {B : Nat} {w' : World} {l : List Rp} {n : Int} {A : Option Addr} {c N : Nat} {R : List Int} (h : routeE l n = 0) (hR : routeL l n = R) (hN : R.length = N) (h1 : IntsAt B w' A c R) : RouteAns B w' (.returned (.tuple #[.slice A N c, .int .i64 0])) l n := by
  have : routeA l n = R := by unfold routeA; rw [if_pos h, hR]
  exact ⟨A, c, by rw [this, h, hN], by rw [this]; exact h1⟩
theorem routeE_ok {l : List Rp} {n : Int} (h : Rok l) (hn : nodeB n = true) : routeE l n = if routeL l n = [] then 17 else 0 := by
  unfold routeE
  rw [if_neg (by rw [rchk_iff.2 h]; simp), if_neg (by rw [hn]; simp)]
set_option maxHeartbeats 3200000 in
theorem Route_any (A : Option Addr) (c : Nat) (l : List Rp) (n : Int) (w : World) (hr : RpAt w A c l) :
    Calls Try.prog 62 #[.slice A l.length c, .int .i64 n] w fun e w' => RouteAns w.heap.size w' e l n ∧ Below w.heap.size w w' := by
  have HC := Lib.hid (rcheck_any A c l w hr)
  have HR := Lib.hid hr
  obtain ⟨E, hE⟩ : ∃ E, rchk l = E := ⟨_, rfl⟩
  rw [hE] at HC
  by_cases h0 : E = 0
  case neg =>
    have HE := Lib.hid (show routeE l n = 1 by unfold routeE; rw [if_pos (by rw [hE]; exact h0)])
    have b1 : (E != 0) = true := by simp [h0]
    clear hr hE h0
    go_enter Try.func62, Try.ntmps62
    go_wp2_with (go_at_call 47; refine HC.out.mono ?_; rintro e w1 ⟨rfl, hb1⟩; (have HB1 := Lib.hid hb1); clear hb1)
    go_ret2
    exact ⟨RouteAns.bad HE.out (by decide), HB1.out⟩
  subst h0
  have HOK := Lib.hid (rchk_iff.1 hE)
  have b1 : ((0 : Int) != 0) = false := rfl
  obtain ⟨b, hb⟩ : ∃ b, nodeB n = b := ⟨_, rfl⟩
  have HN := Lib.hid (fun W => node_any n W)
  rw [hb] at HN
  have HNB := Lib.hid hb
  clear hr hE hb
  cases b
  case false =>
    have HE := Lib.hid (show routeE l n = 2 by unfold routeE; rw [if_neg (by rw [rchk_iff.2 HOK.out]; simp), if_pos HNB.out])
    go_enter Try.func62, Try.ntmps62
    go_wp2_with (first | (go_at_call 47; refine HC.out.mono ?_; rintro e w1 ⟨rfl, hb1⟩; (have HB1 := Lib.hid hb1); clear hb1) | (go_at_call 94; refine (HN.out _).mono ?_; rintro e w' ⟨rfl, rfl⟩))
    go_ret2
    exact ⟨RouteAns.bad HE.out (by decide), HB1.out⟩
  have hE := routeE_ok HOK.out HNB.out
  have HRO := Lib.hid (fun W (h : Below w.heap.size w W) => route_any A c l n W (HR.out.below h) HOK.out HNB.out)
  obtain ⟨R, hR⟩ : ∃ R, routeL l n = R := ⟨_, rfl⟩
  rw [hR] at HRO hE
  have HRR := Lib.hid hR
  obtain ⟨N, hN⟩ : ∃ N, R.length = N := ⟨_, rfl⟩
  rw [hN] at HRO
  have HNN := Lib.hid hN
  have HE := Lib.hid hE
  clear hR hE hN
  have hq : ∀ (W : World) (a : Option Addr) (m k : Nat), (binOp .eql 40 (.slice a m k) (.slice none 0 0)).run Try.prog W = .ok (.bool a.isNone) W := fun W a m k => Lib.run_eql_slice_nil W 40 3 a m k 0 0 Try.underlying40
  by_cases h0 : R = []
  · have HE2 := Lib.hid (show routeE l n = 17 by rw [HE.out, if_pos h0])
    have H0 := Lib.hid h0
    clear h0
    go_enter Try.func62, Try.ntmps62
    set_option maxRecDepth 100000 in go_wp2_with (first | (go_at_call 47; refine HC.out.mono ?_; rintro e w1 ⟨rfl, hb1⟩; (have HB1 := Lib.hid hb1); clear hb1) | (go_at_call 94; refine (HN.out _).mono ?_; rintro e w' ⟨rfl, rfl⟩) | (go_at_call 101; refine (HRO.out _ HB1.out).mono ?_; rintro e w3 ⟨A3, c3, rfl, hI, hb3⟩; obtain rfl := hI.nil.2 H0.out; (have HB3 := Lib.hid (HB1.out.trans (hb3.mono HB1.out.size))); clear hI hb3))
    go_ret2
    exact ⟨RouteAns.bad HE2.out (by decide), HB3.out⟩
  · have HE2 := Lib.hid (show routeE l n = 0 by rw [HE.out, if_neg h0])
    have H0 := Lib.hid h0
    clear h0
    go_enter Try.func62, Try.ntmps62
    set_option maxRecDepth 100000 in go_wp2_with (first | (go_at_call 47; refine HC.out.mono ?_; rintro e w1 ⟨rfl, hb1⟩; (have HB1 := Lib.hid hb1); clear hb1) | (go_at_call 94; refine (HN.out _).mono ?_; rintro e w' ⟨rfl, rfl⟩) | (go_at_call 101; refine (HRO.out _ HB1.out).mono ?_; rintro e w3 ⟨A3, c3, rfl, hI, hb3⟩; (have hs3 : ∃ a3, A3 = some a3 := by cases A3 with | none => exact absurd (hI.nil.1 rfl) H0.out | some a3 => exact ⟨a3, rfl⟩); obtain ⟨a3, rfl⟩ := hs3; (have HI := Lib.hid (show IntsAt w.heap.size w3 (some a3) c3 R from ⟨hI.at_, fun a ha => Nat.le_trans HB1.out.size (hI.fresh a ha), hI.nil⟩)); (have HB3 := Lib.hid (HB1.out.trans (hb3.mono HB1.out.size))); clear hI hb3))
    go_ret2
    exact ⟨RouteAns.good HE2.out HRR.out HNN.out HI.out, HB3.out⟩
end Go.Proofs.Ytckanomabhbkaaa
