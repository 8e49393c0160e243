/- Topo: Push, Pop of the queue; heap.Push, heap.Pop. -/
import Derived.Test.YtgebehnlfihliaaTOrd
import Derived.Deep.AppendLies
import Derived.Deep.RegionLaw
namespace Go.Proofs.Ytgebehnlfihliaa
open Go.RowKit
set_option linter.unusedSimpArgs false
set_option linter.unusedVariables false
set_option maxRecDepth 100000
theorem Fr.weak {S S' : Nat → Prop} {a b : World} (h : Fr S a b) (hs : ∀ x, S x → S' x) : Fr S' a b :=
  ⟨h.size, fun x hx hn => h.same x hx (fun hh => hn (hs x hh)), h.ro⟩
theorem Fr.trans' {S S' : Nat → Prop} {a b c : World} (h : Fr S a b) (k : Fr S' b c) (hs : ∀ x, S' x → S x ∨ a.heap.size ≤ x) : Fr S a c :=
  ⟨Nat.le_trans h.size k.size, fun x hx hn => (k.same x (Nat.lt_of_lt_of_le hx h.size) (fun hh => by rcases hs x hh with h1 | h1; exact hn h1; omega)).trans (h.same x hx hn), k.ro.1.trans h.ro.1, k.ro.2.1.trans h.ro.2.1, k.ro.2.2.trans h.ro.2.2⟩
theorem assert80 (x : Value) (w : World) : Sem.run Try.prog (Instr.typeAssert (.iface 80 x) 20 80 false) w = .ok x w := by kernel_rfl
theorem under82 : Try.prog.underlying 82 = some (.slice 80) := by kernel_rfl
theorem i80 : (Try.prog.info? 80).map (fun i => (i.zero, i.size, i.bytes)) = some (some (.agg #[.int .i64 0, .int .i64 0]), 2, 16) := by kernel_rfl
def vals (κ : Nat → Int × Int) : Nat → List Value
  | 0 => []
  | n + 1 => vals κ n ++ [.int .i64 (κ n).1, .int .i64 (κ n).2]
theorem vals_len (κ : Nat → Int × Int) (n : Nat) : (vals κ n).length = n * 2 := by
  induction n with
  | zero => rfl
  | succ n ih => simp [vals, ih]; omega
theorem vals_at (κ : Nat → Int × Int) (n i : Nat) (hi : i < n) : (vals κ n)[i * 2]? = some (.int .i64 (κ i).1) ∧ (vals κ n)[i * 2 + 1]? = some (.int .i64 (κ i).2) := by
  induction n with
  | zero => omega
  | succ n ih =>
    unfold vals
    by_cases h : i < n
    · rw [List.getElem?_append_left (by rw [vals_len]; omega), List.getElem?_append_left (by rw [vals_len]; omega)]
      exact ih h
    · have : i = n := by omega
      subst this
      rw [List.getElem?_append_right (by rw [vals_len]; omega), List.getElem?_append_right (by rw [vals_len]; omega), vals_len]
      simp
theorem vals_congr {κ κ' : Nat → Int × Int} {n : Nat} (h : ∀ i, i < n → κ' i = κ i) : vals κ' n = vals κ n := by
  induction n with
  | zero => rfl
  | succ n ih => unfold vals; rw [ih (fun i hi => h i (by omega)), h n (by omega)]
theorem Qp.own {w : World} {p r cap n : Nat} {d : Nat → Int × Int} (h : Qp w p r cap n d) : w.ownsRow 0 80 2 (.slice (some ⟨r, 0, none⟩) n cap) n (vals d n) := by
  obtain ⟨cur, h1, h2, h3⟩ := h.row
  have hnc := h.nc
  refine ⟨vals_len d n, .inr ⟨r, cap, cur, rfl, Nat.zero_le _, h1, h.nc, h.cm, h2, ?_⟩⟩
  apply List.ext_getElem?
  intro k
  by_cases hk : k < n * 2
  · rw [List.getElem?_take, if_pos hk]
    have := vals_at d n (k / 2) (by omega)
    have h4 := h3 (k / 2) (by omega)
    rcases Nat.mod_two_eq_zero_or_one k with e | e
    · have e2 : k = k / 2 * 2 := by omega
      rw [e2, this.1]; simpa using h4.1
    · have e2 : k = k / 2 * 2 + 1 := by omega
      rw [e2, this.2]; simpa using h4.2
  · rw [List.getElem?_take, if_neg hk, List.getElem?_eq_none (by rw [vals_len]; omega)]
theorem qp_of {w : World} {p r cap n : Nat} {d : Nat → Int × Int} (hd : w.heap[p]? = some (.cells #[.slice (some ⟨r, 0, none⟩) n cap] 82 (0, 0))) (h : w.ownsRow 0 80 2 (.slice (some ⟨r, 0, none⟩) n cap) n (vals d n)) (hn : 0 < n) : Qp w p r cap n d := by
  rcases h.2 with ⟨e, e2⟩ | ⟨g, cap', cur, e, _, hg, hc, hm, hs, ht⟩
  · omega
  · simp at e
    obtain ⟨rfl, rfl⟩ := e
    refine ⟨hd, ⟨cur, hg, hs, fun i hi => ?_⟩, hc, hm⟩
    have := vals_at d n i hi
    rw [← ht, List.getElem?_take, List.getElem?_take, if_pos (by omega), if_pos (by omega)] at this
    simpa using this
theorem vals_push (κ : Nat → Int × Int) (n : Nat) (x : Int × Int) : vals (pushG κ n x) (n + 1) = vals κ n ++ [.int .i64 x.1, .int .i64 x.2] := by
  show vals (pushG κ n x) n ++ _ = _
  rw [vals_congr (κ := κ) (fun i hi => by simp [pushG, hi])]
  simp [pushG]
set_option maxHeartbeats 1000000 in
theorem qPop_m {w : World} {p r cap n : Nat} {κ : Nat → Int × Int} (h : Qp w p r cap (n + 1) κ) :
    Calls Try.prog 120 #[.pointer (some ⟨p, 0, none⟩)] w fun e w' => e = .returned (.iface 80 (.agg #[.int .i64 (κ n).1, .int .i64 (κ n).2])) ∧ Qp w' p r cap n κ ∧ Fr (fun b => b = p) w w' := by
  have hnc := h.nc
  have hcm := h.cm
  have c0 := h.cslice
  have f0 : w.frozen? ⟨p, 0, none⟩ = false := froz_b h.hd
  have c1 := (h.cell (i := n) (by omega)).1
  have c2 := (h.cell (i := n) (by omega)).2
  have hpl : p < w.heap.size := (Array.getElem?_eq_some_iff.1 h.hd).1
  have hrl : r < w.heap.size := by obtain ⟨cur, h1, _⟩ := h.row; exact (Array.getElem?_eq_some_iff.1 h1).1
  have hlt : (n : Int) < ((n + 1 : Nat) : Int) := by omega
  have hnc' : (n : Int) ≤ (cap : Int) := by omega
  have hcm' : (cap : Int) ≤ 9223372036854775807 := by simp only [maxLen] at hcm; omega
  have hz : (((n + 1 : Nat) : Int) - 1) = (n : Int) := by omega
  go_enter Try.func120, Try.ntmps120
  go_wp2
  go_ret
  have hrp := h.rp
  have hp1 := h.hd
  obtain ⟨cur, r1, r2, r3⟩ := h.row
  refine ⟨rfl, ⟨(al_lt' (by simpa [sc_size] using hpl)).trans (sc_at hp1), ⟨cur, ?_, r2, fun i hi => r3 i (by omega)⟩, by omega, h.cm⟩, ?_⟩
  · rw [al_lt' (by simpa [sc_size] using hrl), sc_ne hrp]; exact r1
  · refine ⟨by simp, fun b hb hs => ?_, rfl, rfl, rfl⟩
    rw [al_lt' (by simpa [sc_size] using hb), sc_ne hs]
theorem Qp.alloc {w : World} {p r cap n : Nat} {d : Nat → Int × Int} (h : Qp w p r cap n d) (o : Obj) : Qp (w.alloc o) p r cap n d := by
  have hpl : p < w.heap.size := (Array.getElem?_eq_some_iff.1 h.hd).1
  have hrl : r < w.heap.size := by obtain ⟨cur, h1, _⟩ := h.row; exact (Array.getElem?_eq_some_iff.1 h1).1
  obtain ⟨cur, r1, r2, r3⟩ := h.row
  exact ⟨(al_lt' hpl).trans h.hd, ⟨cur, (al_lt' hrl).trans r1, r2, r3⟩, h.nc, h.cm⟩
set_option maxHeartbeats 1000000 in
theorem qPush_m {w : World} {p r cap n : Nat} {κ : Nat → Int × Int} (h : Qp w p r cap n κ) (hn : n ≤ 1000000000) (x f : Int) :
    Calls Try.prog 121 #[.pointer (some ⟨p, 0, none⟩), .iface 80 (.agg #[.int .i64 x, .int .i64 f])] w fun e w' => e = .returned (.tuple #[]) ∧ ∃ r' cap', Qp w' p r' cap' (n + 1) (pushG κ n (x, f)) ∧ (r' = r ∨ w.heap.size ≤ r') ∧ Fr (fun b => b = p ∨ b = r) w w' := by
  have hnc := h.nc
  have c0 := h.cslice
  have f0 : w.frozen? ⟨p, 0, none⟩ = false := froz_b h.hd
  have hrp := h.rp
  have hpl : p < w.heap.size := (Array.getElem?_eq_some_iff.1 h.hd).1
  have hrl : r < w.heap.size := by obtain ⟨cur, h1, _⟩ := h.row; exact (Array.getElem?_eq_some_iff.1 h1).1
  obtain ⟨i0, hi, hz0, hz1, hz2⟩ := info_parts i80
  have hta := assert80
  have A1 : Hid (∀ W : World, W.heap = (w.alloc (.cells #[.int .i64 x, .int .i64 f] 80)).heap → W.ownsRow 0 80 2 (.slice (some ⟨r, 0, none⟩) n cap) n (vals κ n)) := fun W hW => owns_of h.own (fun g hg => by
    have : g = r := by simpa [Value.ownBlock] using hg.symm
    subst this
    rw [hW]; exact al_lt' hrl)
  have A2 : Hid (∀ W : World, W.heap = (w.alloc (.cells #[.int .i64 x, .int .i64 f] 80)).heap → ∀ (j : Nat) u, ([.int .i64 x, .int .i64 f] : List Value)[j]? = some u → W.cell? (Addr.add ⟨w.heap.size, 0, none⟩ j) = some u) := fun W hW j u hu => by
    have hb : W.heap[w.heap.size]? = some (.cells #[.int .i64 x, .int .i64 f] 80 (0, 0)) := by rw [hW]; exact heap_alloc_new w _
    rw [Addr.add_lit, cell_b hb]
    rcases j with _ | _ | j
    · simpa using hu
    · simpa using hu
    · simp at hu
  have A3 : Hid (n + 1 ≤ maxLen) := by show n + 1 ≤ maxLen; simp only [maxLen]; omega
  have A4 : Hid ((n + 1) * 16 ≤ 140737488355328) := by show (n + 1) * 16 ≤ 140737488355328; omega
  have A5 : Hid (∀ u ∈ ([.int .i64 x, .int .i64 f] : List Value), u.oneCell' = true) := by
    intro u hu
    simp at hu
    rcases hu with rfl | rfl <;> rfl
  go_enter Try.func121, Try.ntmps121
  go_wp2_with fail
  go_region_law (refine step_append_lies _ rfl (.tmp 7) (.tmp 10) 82 rfl 0 80 i0 (.agg #[.int .i64 0, .int .i64 0]) 2 16 under82 hi hz0 hz1 hz2 rfl (by decide) (.slice (some ⟨r, 0, none⟩) n cap) n (vals κ n) (by simp [Act.eval, Act.put]) (A1.out _ rfl) ⟨w.heap.size, 0, none⟩ 1 1 [.int .i64 x, .int .i64 f] (by simp [Act.eval, Act.put]) rfl (A2.out _ rfl) A5.out (by decide) A3.out A4.out (Nat.zero_le _) (w.heap.size + 1) (by simp) ?_; intro g cap' w1 hown hgrow hat hlt; have hp1 : w1.heap[p]? = some (.cells #[.slice (some ⟨r, 0, none⟩) n cap] 82 (0, 0)) := (hgrow.block p (by simp; omega) (by simp [Value.ownBlock]; omega)).trans ((al_lt' hpl).trans h.hd); have hpc : w1.cell? ⟨p, 0, none⟩ = some (.slice (some ⟨r, 0, none⟩) n cap) := (by rw [cell_b hp1]; rfl); have hpf : w1.frozen? ⟨p, 0, none⟩ = false := froz_b hp1)
  all_goals go_wp2
  all_goals go_end0
  all_goals (
    have hgr : g = r ∨ g = w.heap.size + 1 := by
      rcases hat with h1 | h1
      · left; simpa [Value.ownBlock] using h1.symm
      · exact .inr h1
    have hgp : g ≠ p := by rcases hgr with h1 | h1 <;> omega
    have hsz := hgrow.size
    have hown' := owns_of (w' := w1.setCell ⟨p, 0, none⟩ (.slice (some ⟨g, 0, none⟩) (n + 1) cap')) hown (fun g' hg' => by
      have : g' = g := by simpa [Value.ownBlock] using hg'.symm
      subst this
      exact sc_ne hgp)
    refine ⟨rfl, g, cap', ?_, ?_, ?_, ?_, ?_⟩
    · exact qp_of (sc_at hp1) (by rw [vals_push]; exact hown') (by omega)
    · rcases hgr with h1 | h1
      · exact .inl h1
      · right; omega
    · simp only [sc_size]; exact Nat.le_trans (by simp) hsz
    · intro b hb hs
      have hbr : b ≠ r := fun e => hs (.inr e)
      have hbp : b ≠ p := fun e => hs (.inl e)
      rw [sc_ne hbp]
      exact (hgrow.block b (by simp; omega) (by simp [Value.ownBlock]; omega)).trans (al_lt' hb)
    · exact ⟨hgrow.os, hgrow.tape, hgrow.output⟩)
end Go.Proofs.Ytgebehnlfihliaa
