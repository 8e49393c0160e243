/- Topo: heap.Push, heap.Pop of the queue. -/
import Derived.Test.YtgebehnlfihliaaTHeap3
namespace Go.Proofs.Ytgebehnlfihliaa
open Go.RowKit
set_option linter.unusedSimpArgs false
set_option linter.unusedVariables false
set_option maxRecDepth 100000
set_option maxHeartbeats 1000000 in
theorem hPush_c {w : World} {p r cap n : Nat} {κ : Nat → Int × Int} (h : Qp w p r cap n κ) (hn : n ≤ 100000000) (x f : Int) :
    Calls Try.prog 36 #[.iface 78 (.pointer (some ⟨p, 0, none⟩)), .iface 80 (.agg #[.int .i64 x, .int .i64 f])] w fun e w' => e = .returned (.tuple #[]) ∧ ∃ r' cap', Qp w' p r' cap' (n + 1) (upF bf (pushG κ n (x, f)) n) ∧ (r' = r ∨ w.heap.size ≤ r') ∧ Fr (fun b => b = p ∨ b = r) w w' := by
  have m1 := mPush
  go_enter Try.func36, Try.ntmps36
  go_wp2_with fail
  refine (qPush_m h (by omega) x f).mono ?_
  rintro e w1 ⟨rfl, r', cap', h1, hr, hf1⟩
  have m2 := mLen w1 p _ h1.cslice
  go_wp2_with fail
  refine (qLen_c _ (n + 1) cap' w1).mono ?_
  rintro e w2 ⟨rfl, rfl⟩
  have hz : (((n + 1 : Nat) : Int) - 1) = (n : Int) := by omega
  go_wp2_with fail
  refine (up_c h1 n (by omega)).mono ?_
  rintro e w3 ⟨rfl, h3, hf3⟩
  go_wp2_with fail
  go_end0
  exact ⟨rfl, r', cap', h3, hr, hf1.trans' hf3 (fun x hx => by subst hx; rcases hr with h | h; exact .inl (.inr h); exact .inr h)⟩
set_option maxHeartbeats 1000000 in
theorem hPop_c {w : World} {p r cap n : Nat} {κ : Nat → Int × Int} (h : Qp w p r cap (n + 1) κ) (hn : n ≤ 100000000) :
    Calls Try.prog 35 #[.iface 78 (.pointer (some ⟨p, 0, none⟩))] w fun e w' => e = .returned (.iface 80 (.agg #[.int .i64 (popG bf n κ n).1, .int .i64 (popG bf n κ n).2])) ∧ Qp w' p r cap n (popG bf n κ) ∧ Fr (fun b => b = p ∨ b = r) w w' := by
  have m2 := mLen w p _ h.cslice
  have m3 := mSwap w p _ h.cslice
  have m4 := mPop
  have hz : (((n + 1 : Nat) : Int) - 1) = (n : Int) := by omega
  go_enter Try.func35, Try.ntmps35
  go_wp2_with fail
  refine (qLen_c _ (n + 1) cap w).mono ?_
  rintro e w2 ⟨rfl, rfl⟩
  go_wp2_with fail
  have hS := qSwap_h h (i := 0) (j := n) (by omega) (by omega)
  rw [show ((0 : Nat) : Int) = 0 from rfl] at hS
  refine hS.mono ?_
  rintro e w1 ⟨rfl, h1, hf1⟩
  go_wp2_with fail
  have hD := down_c h1 0 n (by omega) (by omega) (by omega)
  rw [show ((0 : Nat) : Int) = 0 from rfl] at hD
  refine hD.mono ?_
  rintro e w2 ⟨rfl, h2, hf2⟩
  go_wp2_with fail
  refine (qPop_m h2).mono ?_
  rintro e w3 ⟨rfl, h3, hf3⟩
  go_wp2_with fail
  go_ret
  exact ⟨rfl, h3, ((hf1.trans hf2).weak (fun x hx => .inr hx)).trans (hf3.weak (fun x hx => .inl hx))⟩
end Go.Proofs.Ytgebehnlfihliaa
