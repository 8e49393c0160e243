/- Delta: Diff. -/
import Derived.Test.YtdmakcfgcgioeaaDTabW
import Derived.StillTailTactics
namespace Go.Proofs.Ytdmakcfgcgioeaa
open Go.RowKit Go.Maps
set_option linter.unusedSimpArgs false
set_option linter.unusedVariables false
set_option maxRecDepth 100000
theorem hpm1 (w : World) (x y : Obj) : ((w.alloc x).alloc y).heap[w.heap.size]? = some x := by rw [al_lt' (by simp)]; exact heap_alloc_new w x
theorem hpm2 (w : World) (x y : Obj) : ((w.alloc x).alloc y).heap[w.heap.size + 1]? = some y := by
  have := heap_alloc_new (w.alloc x) y
  rwa [World.size_alloc] at this
theorem getD_at {α : Type} {L : List α} {i : Nat} (d : α) (h : i < L.length) : L.getD i d = L[i] := by rw [List.getD_eq_getElem?_getD, List.getElem?_eq_getElem h]; rfl
theorem closeq_c (w : World) {o1 o2 : Option Addr} {n1 c1 n2 c2 : Nat} : Calls Try.prog 20 #[.slice o1 n1 c1, .slice o2 n2 c2] w fun e w' => e = .returned (.bool (decide (n1 = n2))) ∧ RowKit.Below w.heap.size w w' := by
  go_enter Try.func20, Try.ntmps20
  go_wp2_with fail
  go_ret
  exact ⟨by by_cases h : n1 = n2 <;> simp [h] <;> omega, Below.refl _ _⟩
theorem eqf_c (w : World) {va vb : Value} {A B : List (List (List Ru))} (ha : Rows (Rows (Sl ceR)) w A va) (hb : Rows (Rows (Sl ceR)) w B vb) :
    Calls Try.prog 19 #[va, vb, .func (.func 20) #[] #[]] w fun e w' => e = .returned (.bool (decide (A.map List.length = B.map List.length))) ∧ RowKit.Below w.heap.size w w' := by
  obtain ⟨oa, ca, ba, fa, rfl, a1, a2, a3, a4⟩ := ha.get
  obtain ⟨ob, cb, bb, fb, rfl, b1, b2, b3, b4⟩ := hb.get
  have A4 : Hid (∀ i (hi : i < A.length), ∃ o c, w.cell? ⟨ba, fa + i, none⟩ = some (.slice o A[i].length c)) := Lib.hid fun i hi => by
    obtain ⟨u, h1, o, c, vs, rfl, _⟩ := a4 i hi
    exact ⟨o, c, h1⟩
  have B4 : Hid (∀ i (hi : i < B.length), ∃ o c, w.cell? ⟨bb, fb + i, none⟩ = some (.slice o B[i].length c)) := Lib.hid fun i hi => by
    obtain ⟨u, h1, o, c, vs, rfl, _⟩ := b4 i hi
    exact ⟨o, c, h1⟩
  obtain ⟨n, hn⟩ : ∃ n, Hid (A.length = n) := ⟨_, Lib.hid rfl⟩
  obtain ⟨m, hm⟩ : ∃ n, Hid (B.length = n) := ⟨_, Lib.hid rfl⟩
  have eg := enters_of Try.func20 (by kernel_rfl) rfl
  clear ha hb a4 b4
  rw [hn.out] at a1 a3 ⊢
  rw [hm.out] at b1 b3 ⊢
  have A3 := Lib.hid a3
  have B3 := Lib.hid b3
  obtain ⟨LA, hLA⟩ : ∃ n, Hid (A.map List.length = n) := ⟨_, Lib.hid rfl⟩
  obtain ⟨LB, hLB⟩ : ∃ n, Hid (B.map List.length = n) := ⟨_, Lib.hid rfl⟩
  have hnA : Hid (LA.length = n) := Lib.hid (by rw [← hLA.out, List.length_map]; exact hn.out)
  have hnB : Hid (LB.length = m) := Lib.hid (by rw [← hLB.out, List.length_map]; exact hm.out)
  rw [hLA.out, hLB.out]
  clear a3 b3
  by_cases hnm : n = m
  rotate_left
  · have e1 : ((n : Int) != (m : Int)) = true := by simp; omega
    have hne : decide (LA = LB) = false := decide_eq_false (fun e => hnm (by rw [← hnA.out, ← hnB.out, e]))
    have HNE := Lib.hid hne
    clear hne hnm
    go_enter Try.func19, Try.ntmps19
    go_wp2_with fail
    go_ret
    rw [HNE.out]
    exact ⟨rfl, Below.refl _ _⟩
  subst hnm
  go_enter Try.func19, Try.ntmps19
  go_wp2_with fail
  go_loopw [17] (fun v17 wr => ∃ i : Nat, v17 = .int .i64 (i : Int) ∧ i ≤ n ∧ Hid (LA.take i = LB.take i) ∧ RowKit.Below w.heap.size w wr) (fun v17 _ => n - (intOf v17).toNat)
  case atStart => exact ⟨0, rfl, Nat.zero_le _, Lib.hid rfl, Below.refl _ _⟩
  case round =>
    obtain ⟨i, rfl, hi, htk, hbr⟩ := hrel
    by_cases hlt : i < n
    · have hltI : (i : Int) < (n : Int) := by omega
      have hiA : i < A.length := by rw [hn.out]; exact hlt
      have hiB : i < B.length := by rw [hm.out]; exact hlt
      obtain ⟨o1, c1, s1⟩ := A4.out i hiA
      obtain ⟨o2, c2, s2⟩ := B4.out i hiB
      obtain ⟨x, hx⟩ : ∃ x, Hid (A[i].length = x) := ⟨_, Lib.hid rfl⟩
      obtain ⟨y, hy⟩ : ∃ x, Hid (B[i].length = x) := ⟨_, Lib.hid rfl⟩
      have hiLA : i < LA.length := by rw [hnA.out]; exact hlt
      have hiLB : i < LB.length := by rw [hnB.out]; exact hlt
      have hxL : LA[i] = x := by simp only [← hLA.out, List.getElem_map]; exact hx.out
      have hyL : LB[i] = y := by simp only [← hLB.out, List.getElem_map]; exact hy.out
      have HXL := Lib.hid hxL
      have HYL := Lib.hid hyL
      rw [hx.out] at s1
      rw [hy.out] at s2
      obtain rfl := A3.out (by omega)
      obtain rfl := B3.out (by omega)
      have z0 := cell_below hbr s1
      have z1 := cell_below hbr s2
      have hcl : Calls Try.prog 20 #[.slice o1 x c1, .slice o2 y c2] wr fun e w' => e = .returned (.bool (decide (x = y))) ∧ RowKit.Below wr.heap.size wr w' := closeq_c wr
      have HCL := Lib.hid hcl
      clear s1 s2 hxL hyL hcl
      by_cases hxy : x = y
      · have hd : decide (x = y) = true := decide_eq_true hxy
        have hsn : Hid (LA.take (i + 1) = LB.take (i + 1)) := Lib.hid (takes_snoc hiLA hiLB htk.out (by rw [HXL.out, HYL.out, hxy]))
        rw [hd] at HCL
        clear hd hxy
        go_wp2_with fail
        refine HCL.out.mono ?_
        rintro e w2 ⟨rfl, hb2⟩
        go_wp2_with fail
        go_roundw
        case rel => exact ⟨i + 1, by go_num, by omega, hsn, below_st hbr hb2⟩
        case measure => simp [intOf] <;> omega
      · have hd : decide (x = y) = false := decide_eq_false hxy
        have hne : Hid (decide (LA = LB) = false) := Lib.hid (decide_eq_false (take_ne hiLA hiLB (by rw [HXL.out, HYL.out]; exact hxy)))
        rw [hd] at HCL
        clear hd hxy
        go_wp2_with fail
        refine HCL.out.mono ?_
        rintro e w2 ⟨rfl, hb2⟩
        go_wp2_with fail
        go_ret
        rw [hne.out]
        exact ⟨rfl, below_st hbr hb2⟩
    · obtain rfl : i = n := by omega
      have heq : Hid (decide (LA = LB) = true) := Lib.hid (decide_eq_true (takes_eq hnA.out hnB.out (Nat.le_refl _) htk.out))
      go_wp2_with fail
      go_ret
      rw [heq.out]
      exact ⟨rfl, hbr⟩
def rowF (A B : List (List (List Ru))) (n m : Nat) : List Ed := tableF (n : Int) (m : Int) (tab A n m) (tab B n m)
def inF (A B : List (List (List Ru))) (n k : Nat) : List Ed := (List.range k).flatMap (rowF A B n)
def outF (A B : List (List (List Ru))) (k : Nat) : List Ed := (List.range k).flatMap fun n => inF A B n (A.getD n []).length
/-- the difference. -/
def diffF (A B : List (List (List Ru))) : List Ed := outF A B A.length
theorem inF_succ (A B : List (List (List Ru))) (n k : Nat) : inF A B n (k + 1) = inF A B n k ++ rowF A B n k := by
  unfold inF; rw [List.range_succ, List.flatMap_append]; simp
theorem outF_succ (A B : List (List (List Ru))) (k : Nat) : outF A B (k + 1) = outF A B k ++ inF A B k (A.getD k []).length := by
  unfold outF; rw [List.range_succ, List.flatMap_append]; simp
theorem inF_mono (A B : List (List (List Ru))) (n : Nat) {k k' : Nat} (h : k ≤ k') : (inF A B n k).length ≤ (inF A B n k').length := by
  induction k' with
  | zero => obtain rfl : k = 0 := by omega
            exact Nat.le_refl _
  | succ j ih =>
    by_cases e : k = j + 1
    · subst e; exact Nat.le_refl _
    · rw [inF_succ, List.length_append]
      have := ih (by omega)
      omega
theorem outF_mono (A B : List (List (List Ru))) {k k' : Nat} (h : k ≤ k') : (outF A B k).length ≤ (outF A B k').length := by
  induction k' with
  | zero => obtain rfl : k = 0 := by omega
            exact Nat.le_refl _
  | succ j ih =>
    by_cases e : k = j + 1
    · subst e; exact Nat.le_refl _
    · rw [outF_succ, List.length_append]
      have := ih (by omega)
      omega
theorem pre_le (A B : List (List (List Ru))) {n k : Nat} (hn : n < A.length) (hk : k ≤ (A.getD n []).length) : (outF A B n ++ inF A B n k).length ≤ (diffF A B).length := by
  have h1 := outF_mono A B (show n + 1 ≤ A.length from hn)
  rw [outF_succ, List.length_append] at h1
  have h2 := inF_mono A B n hk
  rw [List.length_append]
  unfold diffF
  omega
/-- Diff's answer. -/
def diffR (A B : List (List (List Ru))) : Int × List Ed := if A.map List.length = B.map List.length then (0, diffF A B) else (1, [])
end Go.Proofs.Ytdmakcfgcgioeaa
