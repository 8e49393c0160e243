/- Delta: slices.Reverse of changes (the shelf's contract, laid at this program). -/
import Derived.Test.YtdmakcfgcgioeaaDPut
import Derived.Shelf.SlicesQ.Reverse
namespace Go.Proofs.Ytdmakcfgcgioeaa
open Go.RowKit Go.Maps Go.Sort
set_option linter.unusedSimpArgs false
set_option linter.unusedVariables false
set_option maxRecDepth 100000
def reverseE_ren : Go.Shelf.Ren := ⟨fun | 35 => 23 | n => n, fun | 22 => 32 | 23 => 55 | 3 => 3 | 4 => 4 | 0 => 0 | n => n, fun | n => n⟩
theorem reverseE : Go.Proofs.SlLaysE0.n35 Try.prog reverseE_ren := {
  mixed := by kernel_rfl
  f35 := ⟨Try.f23.name, by decide, Try.func23.trans (congrArg some (by kernel_rfl))⟩
  t0 := Try.underlying0
  a0 := Try.isAgg0
  z0 := Try.sizeOf0
  v0 := Try.zeroValue0
  t3 := Try.underlying3
  a3 := Try.isAgg3
  z3 := Try.sizeOf3
  v3 := Try.zeroValue3
  t4 := Try.underlying4
  a4 := Try.isAgg4
  z4 := Try.sizeOf4
  v4 := Try.zeroValue4
  t22 := Try.underlying32
  a22 := Try.isAgg32
  z22 := Try.sizeOf32
  v22 := Try.zeroValue32 }
theorem flatK_at {l : List Ed} {t : Nat} (h : t < l.length * 16) : (l.flatMap ceE)[t]? = some ((flatK ceE 16 l.toArray)[t]!) := by
  rw [get_flatK _ _ _ _ (by simpa using h)]
  have hi : t / 16 < l.length := by omega
  have e := flat_at lenE l (t / 16) hi (t % 16) (Nat.mod_lt _ (by decide))
  rw [show t / 16 * 16 + t % 16 = t by omega] at e
  have h1 : l.toArray[t / 16]! = l[t / 16] := by rw [getElem!_pos _ _ (by simpa using hi)]; simp
  have h2 : t % 16 < (ceE l[t / 16]).length := by rw [lenE]; omega
  rw [e, h1, List.getElem?_eq_getElem h2, getElem!_pos (ceE l[t / 16]) _ h2]
theorem reverse_flat (l : List Ed) : (l.toArray.reverse) = l.reverse.toArray := by simp
theorem rev_c (w : World) {B : Nat → Prop} {v : Value} {l : List Ed} (h : O1 ceE 55 16 w B l v) :
    Calls Try.prog 23 #[v] w fun e w' => e = .returned (.tuple #[]) ∧ O1 ceE 55 16 w' B l.reverse v ∧ Fr (fun g => v.ownBlock = some g) w w' := by
  obtain ⟨o, c, rfl⟩ := Ow.form h
  by_cases h0 : l.length = 0
  · have hl : l = [] := List.length_eq_zero_iff.1 h0
    subst hl
    have := AnyQ.slices_Reverse_empty reverseE o c w
    refine this.mono ?_
    rintro e w' ⟨rfl, rfl⟩
    exact ⟨rfl, h, Fr.refl _ _⟩
  rcases h.2 with ⟨h1, h2⟩ | ⟨g, cap, cur, h1, hB, hg, hn, hc, hs, ht⟩
  · exact absurd h2 h0
  obtain ⟨rfl, rfl⟩ : o = some ⟨g, 0, none⟩ ∧ c = cap := by simpa using h1
  have hH : HoldsK ceE 16 w g 0 l.toArray := by
    intro j hj
    have hj' : j < l.length * 16 := by simpa using hj
    have := Ow.cells h (g := g) rfl j _ (flatK_at hj')
    rw [Addr.add_lit] at this
    exact ⟨this, by simp [World.frozen?, hg]⟩
  have hc := AnyQ.slices_Reverse reverseE 16 Try.isAgg55 Try.sizeOf55 ceE lenE oneE g 0 c l.toArray w hH (by simp only [maxLen] at hc; simp; omega)
  simp only [List.size_toArray] at hc
  refine hc.mono ?_
  rintro e w' ⟨rfl, n, hw⟩
  have hwg : w'.heap[g]? = some (.cells (Go.Sort.putCells id 0 (flatK ceE 16 l.reverse.toArray) cur) 55 (0, 0)) := by
    rw [hw, reverse_flat]
    show ((w.heap.modify g (Go.Sort.onCells _))[g]?) = _
    rw [Array.getElem?_modify, if_pos rfl, hg]
    rfl
  have hwo : ∀ k, k ≠ g → w'.heap[k]? = w.heap[k]? := fun k hk => by
    rw [hw]
    show ((w.heap.modify g (Go.Sort.onCells _))[k]?) = _
    rw [Array.getElem?_modify, if_neg (fun e => hk e.symm)]
  have hlen : l.reverse.length = l.length := List.length_reverse
  refine ⟨rfl, ⟨?_, .inr ⟨g, c, _, by rw [hlen], hB, hwg, by rw [hlen]; exact hn, by assumption, by simpa [Go.Sort.putCells] using hs, ?_⟩⟩, ?_⟩
  · exact flat_len lenE _
  · apply List.ext_getElem?
    intro t
    by_cases htl : t < l.length * 16
    · have hcs : t < cur.size := Nat.lt_of_lt_of_le htl (Nat.le_trans (Nat.mul_le_mul_right _ hn) hs)
      rw [List.getElem?_take_of_lt (by rw [hlen]; exact htl), Array.getElem?_toList, flatK_at (by rw [hlen]; exact htl)]
      simp only [Go.Sort.putCells, Array.getElem?_mapIdx, Array.getElem?_eq_getElem hcs, Option.map_some, size_flatK, List.size_toArray, hlen]
      rw [if_pos ⟨by omega, by omega⟩]
      rfl
    · rw [List.getElem?_eq_none (by rw [List.length_take, hlen]; omega), List.getElem?_eq_none (by rw [flat_len lenE, hlen]; omega)]
  · exact ⟨by rw [hw]; rfl, by rw [hw]; rfl, by rw [hw]; rfl, by rw [hw]; show _ ≤ (w.heap.modify g _).size; rw [Array.size_modify]; exact Nat.le_refl _, fun k _ hk => hwo k (fun e => hk (by rw [e]; rfl))⟩
end Go.Proofs.Ytdmakcfgcgioeaa
