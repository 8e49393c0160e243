/- Agenda: AgendaPlays: whatever the steps. -/
import Derived.Test.YtlaagbnclkhbjaaALPlays
import Derived.Test.YtlaagbnclkhbjaaAOpen2
namespace Go.Proofs.Ytlaagbnclkhbjaa
open Go.RowKit Go.Maps
set_option linter.unusedSimpArgs false
set_option linter.unusedVariables false
set_option maxRecDepth 100000
set_option maxHeartbeats 2000000 in
theorem plays_none (o : Option Addr) (cap : Nat) (w : World) : Calls Try.prog 3 #[.slice o 0 cap] w fun e w' => e = .returned (.bool true) ∧ RowKit.Below w.heap.size w w' := by
  go_enter Try.func3, Try.ntmps3
  go_wp2_with fail
  refine (New_c w).mono ?_
  rintro e w1 ⟨rfl, h1, hs1, hk1⟩
  go_wp2_with fail
  refine (awake_c _).mono ?_
  rintro e w2 ⟨rfl, hk2⟩
  have hs2 := hk2.size
  have hb : Hid (RowKit.Below w.heap.size w (w2.alloc (.cells #[] 30))) := ((hk1.trans (hk2.mono (by omega))).alloc (by omega) _)
  clear h1 hk1 hk2
  go_wp2_with fail
  go_loopw [4, 5] (fun v4 v5 wr => v5 = .int .i64 0 ∧ RowKit.Below w.heap.size w wr) (fun _ _ _ => 0)
  case atStart => exact ⟨rfl, hb.out⟩
  case round =>
    obtain ⟨rfl, hbw⟩ := hrel
    go_wp2
    go_ret
    exact ⟨rfl, hbw⟩
theorem plays_lifted {H : Type} {enc : TypeId × Value → H} {W : World} {r : Reach} {b0 base : Nat} {spare : Nat → Bool} {held : Bool} {v : Value} {d : DataW H} {p : List MemPlace}
    (hv : Value.okWide Try.prog W r b0 22 v) (h : DataW.Trod enc Try.prog W base spare held 22 v d p) :
    Calls Try.prog 3 #[v] W fun e w' => e = .returned (.bool true) ∧ RowKit.Below W.heap.size W w' := by
  obtain ⟨o, n, cap, st, rfl, hn, hc, hst⟩ := open_steps hv h
  by_cases h0 : n = 0
  · subst h0
    exact plays_none o cap W
  · obtain ⟨b, off, rfl, hb, h1, h2⟩ := hst (by omega)
    exact plays_some b off n cap st W hb hn (by simp only [maxLen] at hc; omega) h1 h2
end Go.Proofs.Ytlaagbnclkhbjaa
