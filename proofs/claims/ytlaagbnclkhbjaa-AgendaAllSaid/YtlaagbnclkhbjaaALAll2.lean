/- Agenda: AgendaAll: whatever the moments. -/
import Derived.Test.YtlaagbnclkhbjaaALAll
import Derived.Test.YtlaagbnclkhbjaaAOpen2
namespace Go.Proofs.Ytlaagbnclkhbjaa
open Go.ChangeShapes Go.WideShapes Go.ChangeAt Go.RowKit Go.Joins Go.Deep
set_option linter.unusedSimpArgs false
set_option linter.unusedVariables false
theorem und43 : Try.prog.underlying 43 = some (.slice 44) := by kernel_rfl
theorem und44 : Try.prog.underlying 44 = some (.int .u16) := by kernel_rfl
theorem size44 : Try.prog.cellsOf 44 = 1 := by kernel_rfl
theorem all_lifted {H : Type} {enc : TypeId × Value → H} {W : World} {r : Reach} {b0 base : Nat} {spare : Nat → Bool} {held : Bool} {v : Value} {d : DataW H} {p : List MemPlace}
    (hv : Value.okWide Try.prog W r b0 43 v) (h : DataW.Trod enc Try.prog W base spare held 43 v d p) (cut : Int) (hc : (Lit.int .u16 cut).wf = true) :
    Calls Try.prog 4 #[v, .int .u16 cut] W fun e w' => e = .returned (.bool true) ∧ RowKit.Below W.heap.size W w' := by
  have hcb := bounds_u16 hc
  obtain ⟨m, hm⟩ := h
  obtain ⟨o, n, cap, rfl⟩ := okWide_slice und43 hv
  rcases open_ints und43 und44 size44 hm with ⟨hcs, _⟩ | ⟨a, len, cap', zs, hcs, _, hl, hmx, hz, hx, hcell, hwz⟩
  · simp [Value.cells] at hcs
    obtain ⟨rfl, rfl, rfl⟩ := hcs
    exact all_some none 0 0 0 0 (fun _ => 0) cut W (fun h => by omega) (Nat.le_refl _) (by simp) (fun j hj => by omega) (fun j hj => by omega) (by omega) (by omega)
  · simp [Value.cells] at hcs
    obtain ⟨rfl, rfl, rfl⟩ := hcs
    have hnz : n ≤ zs.length := by rw [hz]; split <;> omega
    have hwf : ∀ j, j < n → (Lit.int .u16 (zs.getD j 0)).wf = true := fun j hj => hwz _ (by
      rw [List.getD, List.getElem?_eq_getElem (by omega)]
      exact List.getElem_mem (by omega))
    obtain ⟨b, off, s⟩ := a
    refine all_some _ b off n cap (fun j => zs.getD j 0) cut W (fun hn => ?_) hl (by simp only [maxLen] at hmx; omega) (fun j hj => ?_) (fun j hj => ?_) (by omega) (by omega)
    · have h0 := hcell 0 (by omega)
      have := spot_none h0
      subst this
      exact ⟨rfl, (add_at h0).2⟩
    · exact (add_at (hcell j (by omega))).1
    · have := bounds_u16 (hwf j hj)
      omega
end Go.Proofs.Ytlaagbnclkhbjaa
