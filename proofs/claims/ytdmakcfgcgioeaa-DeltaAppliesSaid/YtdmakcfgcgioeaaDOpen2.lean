/- Delta: the laws' walks over opened arguments. -/
import Derived.Test.YtdmakcfgcgioeaaDOpen
import Derived.Test.YtdmakcfgcgioeaaDL3
import Derived.Test.YtdmakcfgcgioeaaDL6
namespace Go.Proofs.Ytdmakcfgcgioeaa
open Go.ChangeShapes Go.WideShapes Go.ChangeAt Go.RowKit Go.Deep
set_option linter.unusedVariables false
theorem le_sum_of_mem {α : Type} (f : α → Nat) : ∀ {l : List α} {x : α}, x ∈ l → f x ≤ (l.map f).sum
  | y :: l, x, h => by
    simp only [List.map_cons, List.sum_cons]
    rcases List.mem_cons.1 h with rfl | h
    · omega
    · have := le_sum_of_mem f h
      omega
theorem sum_map_le {α : Type} {f g : α → Nat} (h : ∀ x, f x ≤ g x) : ∀ l : List α, (l.map f).sum ≤ (l.map g).sum
  | [] => Nat.le_refl _
  | x :: l => by
    simp only [List.map_cons, List.sum_cons]
    have := h x
    have := sum_map_le h l
    omega
section
variable {C : Cf} {B : Nat}
theorem Sm.tbs (h : Sm C B) : ∀ t ∈ C.tb, (t.map List.length).sum + t.length ≤ B := fun t ht => by
  have := le_sum_of_mem (fun t : List (List Ru) => (t.map List.length).sum + t.length) ht
  have := h.tb
  omega
theorem Sm.tbl (h : Sm C B) : ∀ t ∈ C.tb, ∀ l ∈ t, l.length ≤ B := fun t ht l hl => by
  have h1 := h.tbs t ht
  have h2 := le_sum_of_mem List.length hl
  omega
theorem Sm.bd (h : Sm C B) (hB : B ≤ 1100000) : Bd C := by
  refine ⟨?_, fun l hl => ?_, ?_, ?_, ?_, fun t ht => ?_, fun t ht l hl => ?_⟩
  · have := h.pt; omega
  · have h1 := le_sum_of_mem List.length hl
    have := h.pt
    omega
  · have := h.pe; omega
  · have := h.wy; omega
  · have := h.tb; omega
  · have := h.tbs t ht; omega
  · have := h.tbl t ht l hl; omega
theorem Sm.bt (h : Sm C B) (hB : B ≤ 1100000) : BT 1100000 C.tb := by
  refine ⟨by have := h.tb; omega, fun t ht => by have := h.tbs t ht; omega, fun t ht l hl => Nat.le_trans (h.tbl t ht l hl) hB⟩
theorem Sm.b (h : Sm C B) (hB : B ≤ 1100000) : Bt C.tb := by
  refine ⟨by have := h.tb; omega, fun t ht => by have := h.tbs t ht; omega, fun t ht l hl => by have := h.tbl t ht l hl; omega⟩
theorem Sm.sz (h : Sm C B) : szT C.tb ≤ B := by
  have h1 := sum_map_le (f := szL) (g := fun t : List (List Ru) => (t.map List.length).sum + t.length) (fun t => by unfold szL; omega) C.tb
  have := h.tb
  unfold szT
  omega
end
theorem bulk_le {H : Type} {ds : List (DataW H)} (hk : Rows.uptoSmall H ds = true) : ∀ d ∈ ds, Rows.uptoBulk d ≤ 1100000 := by
  have h1 : Rows.uptoBulkAll ds ≤ 1048576 := of_decide_eq_true hk
  intro d hd
  have h2 : ∀ l : List (DataW H), d ∈ l → Rows.uptoBulk d ≤ Rows.uptoBulkAll l := by
    intro l
    induction l with
    | nil => intro h; cases h
    | cons x l ih =>
      intro h
      simp only [Rows.uptoBulkAll]
      rcases List.mem_cons.1 h with rfl | h
      · omega
      · have := ih h; omega
  have := h2 ds hd
  omega
theorem applies_l {w : World} {C : Cf} {vp ve vw vt : Value} {B : Nat} (h : RC w C vp ve vw vt) (hs : Sm C B) (hB : B ≤ 1100000) {ol : Option Addr} {cl : Nat} {l : List Ed} (hr : Rd w ol l.length cl (l.flatMap ceE)) :
    Calls Try.prog 3 #[.agg #[vp, .int .i64 C.ten, ve, vw, vt], .slice ol l.length cl] w fun e w' => e = .returned (.bool true) ∧ RowKit.Below w.heap.size w w' :=
  applies_c w h (hs.bd hB) (hs.bt hB) hr (by decide)
theorem none_l {w : World} {A B : Cf} {va vb vc vd ua ub uc ud : Value} {M N : Nat} (ha : RC w A va vb vc vd) (hs : Sm A M) (hM : M ≤ 1100000) (hb : RC w B ua ub uc ud) (hs2 : Sm B N) (hN : N ≤ 1100000) :
    Calls Try.prog 6 #[.agg #[va, .int .i64 A.ten, vb, vc, vd], .agg #[ua, .int .i64 B.ten, ub, uc, ud]] w fun e w' => e = .returned (.bool true) ∧ RowKit.Below w.heap.size w w' :=
  none_c w ha hb (hs.bd hM) (hs.bt hM) (by decide) (hs.b hM) (hs2.b hN) ⟨by have := hs.sz; omega, by have := hs2.sz; omega⟩
end Go.Proofs.Ytdmakcfgcgioeaa
