/- Agenda: Push, Pop of items; the heap whose slice may be nil. -/
import Derived.Test.YtlaagbnclkhbjaaAUp
import Derived.Maps.AppendAt
import Derived.Maps.OwnSet
namespace Go.Proofs.Ytlaagbnclkhbjaa
open Go.RowKit
set_option linter.unusedSimpArgs false
set_option linter.unusedVariables false
set_option maxRecDepth 100000
def ptrs (κ : Nat → Nat) (n : Nat) : List Value := (List.range n).map fun i => .pointer (some ⟨κ i, 0, none⟩)
theorem ptrs_at (κ : Nat → Nat) (n i : Nat) (hi : i < n) : (ptrs κ n)[i]? = some (.pointer (some ⟨κ i, 0, none⟩)) := by simp [ptrs, hi]
theorem ptrs_len (κ : Nat → Nat) (n : Nat) : (ptrs κ n).length = n := by simp [ptrs]
theorem ptrs_congr {κ κ' : Nat → Nat} {n : Nat} (h : ∀ i, i < n → κ' i = κ i) : ptrs κ' n = ptrs κ n := by
  unfold ptrs
  apply List.map_congr_left
  intro i hi
  rw [h i (by simpa using hi)]
theorem al_lt' {w : World} {o : Obj} {n : Nat} (hn : n < w.heap.size) : (w.alloc o).heap[n]? = w.heap[n]? := Below.heap_alloc w o n hn
theorem cell_one_new' (w : World) (x : Value) (t : TypeId) (b : Nat) (hb : b = w.heap.size) : ∀ j u, [x][j]? = some u → (w.alloc (.cells #[x] t)).cell? ((⟨b, 0, none⟩ : Addr).add j) = some u := by
  subst hb
  exact cell_one_new w x t
theorem owns_of {w w' : World} {base : Nat} {e : TypeId} {size : Nat} {v : Value} {n : Nat} {xs : List Value} (h : w.ownsRow base e size v n xs) (hh : ∀ g, v.ownBlock = some g → w'.heap[g]? = w.heap[g]?) : w'.ownsRow base e size v n xs := by
  refine ⟨h.1, ?_⟩
  rcases h.2 with hn | ⟨g, cap, cur, rfl, hb, hg, rest⟩
  · exact .inl hn
  · exact .inr ⟨g, cap, cur, rfl, hb, (hh g rfl).trans hg, rest⟩
structure Hq (S : Nat → Prop) (w : World) (p n : Nat) (mv ov : Value) (κ : Nat → Nat) (A O I : Nat → Int) : Prop where
  hd : ∃ sl, w.heap[p]? = some (.cells #[sl, mv, ov] 53 (0, 0)) ∧ w.ownsRow 0 54 1 sl n (ptrs κ n) ∧ ∀ r, sl.ownBlock = some r → S r
  it : ∀ i, i < n → w.heap[κ i]? = some (.cells #[.int .i64 (A (κ i)), .int .i64 (O (κ i)), .int .i64 (I (κ i)), .int .i64 (i : Int)] 56 (0, 0))
  inj : ∀ i j, i < n → j < n → κ i = κ j → i = j
  sk : ∀ i, i < n → S (κ i)
theorem Hq.hp {S : Nat → Prop} {w : World} {p n : Nat} {mv ov : Value} {κ : Nat → Nat} {A O I : Nat → Int} (h : Hq S w p n mv ov κ A O I) (hn : 0 < n) : ∃ r cap, Hp S w p r cap n mv ov κ A O I := by
  obtain ⟨sl, h1, h2, h3⟩ := h.hd
  rcases h2.2 with ⟨rfl, e⟩ | ⟨g, cap, cur, rfl, hb, hg, hc, hm, hs, ht⟩
  · omega
  · refine ⟨g, cap, h1, ⟨cur, hg, by simpa using hs, fun i hi => ?_⟩, hc, hm, h.it, h.inj, h3 g rfl, h.sk⟩
    have := ptrs_at κ n i hi
    rw [← ht, List.getElem?_take] at this
    simpa [hi] using this
theorem Hp.hq {S : Nat → Prop} {w : World} {p r cap n : Nat} {mv ov : Value} {κ : Nat → Nat} {A O I : Nat → Int} (h : Hp S w p r cap n mv ov κ A O I) : Hq S w p n mv ov κ A O I := by
  obtain ⟨cur, h1, h2, h3⟩ := h.row
  have hnc := h.nc
  refine ⟨⟨_, h.hd, ⟨by rw [ptrs_len]; omega, .inr ⟨r, cap, cur, rfl, Nat.zero_le _, h1, h.nc, h.cm, by omega, ?_⟩⟩, fun g e => by cases e; exact h.sr⟩, h.it, h.inj, h.sk⟩
  apply List.ext_getElem?
  intro i
  by_cases hi : i < n
  · rw [ptrs_at κ n i hi, List.getElem?_take, if_pos (by omega)]
    simpa using h3 i hi
  · rw [List.getElem?_eq_none (by simp; omega), List.getElem?_eq_none (by rw [ptrs_len]; omega)]
theorem Hq.redrawn {S : Nat → Prop} {w : World} {p n : Nat} {mv ov : Value} {κ : Nat → Nat} {A O I : Nat → Int} (h : Hq S w p n mv ov κ A O I) (m : Nat) : Hq S (redrawn w m) p n mv ov κ A O I :=
  ⟨h.hd, h.it, h.inj, h.sk⟩
theorem Fr.trans' {S S' : Nat → Prop} {a b c : World} (h : Fr S a b) (k : Fr S' b c) (hs : ∀ x, S' x → S x ∨ a.heap.size ≤ x) : Fr S a c :=
  ⟨Nat.le_trans h.size k.size, fun x hx hn => (k.same x (Nat.lt_of_lt_of_le hx h.size) (fun hh => by rcases hs x hh with h1 | h1; exact hn h1; omega)).trans (h.same x hx hn), h.ro.trans k.ro⟩
theorem u51 : Try.prog.underlying 51 = some (.slice 54) := by kernel_rfl
theorem i54 : (Try.prog.info? 54).map (fun i => (i.zero, i.size, i.bytes)) = some (some (.pointer none), 1, 8) := by kernel_rfl
theorem assert54 (x : Value) (w : World) : Sem.run Try.prog (Instr.typeAssert (.iface 54 x) 20 54 false) w = .ok x w := by kernel_rfl
/-- the new heap: one more at the end. -/
def pushF (κ : Nat → Nat) (n k : Nat) : Nat → Nat := fun i => if i < n then κ i else k
theorem ptrs_push (κ : Nat → Nat) (n k : Nat) : ptrs (pushF κ n k) (n + 1) = ptrs κ n ++ [.pointer (some ⟨k, 0, none⟩)] := by
  unfold ptrs
  rw [List.range_succ, List.map_append]
  congr 1
  · apply List.map_congr_left
    intro i hi
    simp at hi
    simp [pushF, hi]
  · simp [pushF]
set_option maxHeartbeats 1000000 in
theorem Push_m {S : Nat → Prop} {w : World} {p n : Nat} {mv ov : Value} {κ : Nat → Nat} {A O I : Nat → Int} (h : Hq S w p n mv ov κ A O I) (hn : n ≤ 1000000000) (k : Nat) (pl : Int)
    (hk : w.heap[k]? = some (.cells #[.int .i64 (A k), .int .i64 (O k), .int .i64 (I k), .int .i64 pl] 56 (0, 0))) (hkn : ∀ i, i < n → κ i ≠ k) (hSp : S p) (hSk : S k) :
    Calls Try.prog 44 #[.pointer (some ⟨p, 0, none⟩), .iface 54 (.pointer (some ⟨k, 0, none⟩))] w fun e w' => e = .returned (.tuple #[]) ∧ Hq (fun b => S b ∨ w.heap.size ≤ b) w' p (n + 1) mv ov (pushF κ n k) A O I ∧ Fr S w w' := by
  obtain ⟨sl, h1, h2, h3⟩ := h.hd
  obtain ⟨i0, hi, hz0, hz1, hz2⟩ := info_parts i54
  have c0 : w.cell? ⟨p, 0, none⟩ = some sl := by rw [cell_b h1]; rfl
  have f0 : w.frozen? ⟨p, 0, none⟩ = false := froz_b h1
  have c3 : w.cell? ⟨k, 3, none⟩ = some (.int .i64 pl) := by rw [cell_b hk]; rfl
  have f3 : w.frozen? ⟨k, 3, none⟩ = false := froz_b hk
  have hpk : p ≠ k := fun e => by rw [e, hk] at h1; simp at h1
  have hkp : k ≠ p := hpk.symm
  have hplt : p < w.heap.size := (Array.getElem?_eq_some_iff.1 h1).1
  have hklt : k < w.heap.size := (Array.getElem?_eq_some_iff.1 hk).1
  have hfar : ∀ (V : World) (p a : Addr) (v : Value), p.block ≠ a.block → (V.setCell p v).cell? a = V.cell? a := fun V p a v h => World.cell?_setCell_far V p a v h
  have hob : ∀ g, sl.ownBlock = some g → g ≠ p ∧ g ≠ k ∧ g < w.heap.size ∧ S g := fun g hg => by
    have := h3 g hg
    rcases h2.2 with ⟨rfl, _⟩ | ⟨g', cap, cur, rfl, _, hgg, _⟩
    · simp [Value.ownBlock] at hg
    · simp [Value.ownBlock] at hg
      subst hg
      exact ⟨fun e => by rw [e, h1] at hgg; simp at hgg, fun e => by rw [e, hk] at hgg; simp at hgg, (Array.getElem?_eq_some_iff.1 hgg).1, this⟩
  have hlen : ∃ cp ad, sl = .slice ad n cp := by
    rcases h2.2 with ⟨rfl, rfl⟩ | ⟨g', cap, cur, rfl, _⟩
    · exact ⟨_, _, rfl⟩
    · exact ⟨_, _, rfl⟩
  obtain ⟨cp, ad, rfl⟩ := hlen
  have hta := assert54
  go_enter Try.func44, Try.ntmps44
  go_wp2_with (first
    | (at_builtin; refine wpList_append_own_at _ rfl _ _ 51 rfl 0 54 i0 (.pointer none) 1 8 u51 hi hz0 hz1 hz2 rfl (by decide) _ _ _ rfl (owns_of (w := w) h2 ?_) ⟨w.heap.size, 0, none⟩ 1 1 [.pointer (some ⟨k, 0, none⟩)] rfl rfl ?_ ?_ ?_ ?_ ?_ ?_)
    | fail)
  case refine_1 =>
    intro g hg
    have hg' := hob g hg
    rw [al_lt' (by simp only [sc_size]; omega), sc_ne (fun e => hg'.2.1 e)]
  case refine_2 => exact cell_one_new' _ _ _ _ (by simp only [sc_size])
  case refine_3 => intro u hu; simp at hu; subst hu; rfl
  case refine_4 => unfold maxLen; omega
  case refine_5 => omega
  case refine_6 => omega
  case refine_7 =>
    intro v' w1 hown' hgrow hnil hloc
    obtain ⟨ad', cp', rfl⟩ : ∃ ad' cp', v' = .slice ad' (n + 1) cp' := by
      rcases hown'.2 with ⟨e1, e2⟩ | ⟨g', cap, cur, e1, _⟩
      · omega
      · exact ⟨_, _, e1⟩
    have hs1 := hgrow.size
    simp only [World.size_alloc, sc_size] at hs1
    have hkeep : ∀ b, b < w.heap.size → b ≠ k → some b ≠ (Value.slice ad n cp).ownBlock → w1.heap[b]? = w.heap[b]? := fun b hb hbk hbo => by
      rw [hgrow.block b (by simp only [World.size_alloc, sc_size]; omega) hbo, al_lt' (by simp only [sc_size]; omega), sc_ne hbk]
    have hp1 : w1.heap[p]? = some (.cells #[.slice ad n cp, mv, ov] 53 (0, 0)) := (hkeep p hplt hpk (fun e => (hob p e.symm).1 rfl)).trans h1
    have hk1 : w1.heap[k]? = some (.cells #[.int .i64 (A k), .int .i64 (O k), .int .i64 (I k), .int .i64 (n : Int)] 56 (0, 0)) := by
      rw [hgrow.block k (by simp only [World.size_alloc, sc_size]; omega) (fun e => (hob k e.symm).2.1 rfl), al_lt' (by simp only [sc_size]; omega)]
      exact sc_at hk
    have cp1 : w1.cell? ⟨p, 0, none⟩ = some (.slice ad n cp) := by rw [cell_b hp1]; rfl
    have fp1 : w1.frozen? ⟨p, 0, none⟩ = false := froz_b hp1
    have hown2 : w1.ownsRow 0 54 1 (.slice ad' (n + 1) cp') (n + 1) (ptrs κ n ++ [.pointer (some ⟨k, 0, none⟩)]) := hown'
    have hlb : ∀ g, (Value.slice ad' (n + 1) cp').ownBlock = some g → g ≠ p ∧ (S g ∨ w.heap.size ≤ g) := fun g hg => by
      rcases hloc with e | e
      · rw [hg] at e
        have := hob g e.symm
        exact ⟨this.1, .inl this.2.2.2⟩
      · have : some g = some (w.heap.size + 1) := by rw [← hg]; exact e.trans (by simp)
        have : g = w.heap.size + 1 := by simpa using this
        exact ⟨by omega, .inr (by omega)⟩
    clear hown' hnil hloc
    have HL := Lib.hid hlb
    have HO := Lib.hid hown2
    clear hlb hown2
    go_wp2
    go_end0
    refine ⟨rfl, ⟨⟨.slice ad' (n + 1) cp', sc_at hp1, ?_, fun g hg => (HL.out g hg).2⟩, ?_, ?_, ?_⟩, ⟨by simp only [sc_size]; omega, fun b hb hs => ?_, hgrow.os, hgrow.tape, hgrow.output⟩⟩
    · rw [ptrs_push]
      exact owns_of HO.out (fun g hg => sc_ne (HL.out g hg).1)
    · intro i hi
      unfold pushF
      by_cases hin : i < n
      · have hkp' : κ i ≠ p := fun e => by have := h.it i hin; rw [e, h1] at this; simp at this
        rw [if_pos hin, sc_ne hkp', hkeep (κ i) (Array.getElem?_eq_some_iff.1 (h.it i hin)).1 (hkn i hin) (fun e => ?_)]
        · exact h.it i hin
        · rcases h2.2 with ⟨e2, _⟩ | ⟨g', cap, cur, e2, _, hgg, _⟩
          · rw [e2] at e; simp [Value.ownBlock] at e
          · rw [e2] at e
            simp [Value.ownBlock] at e
            have := h.it i hin
            rw [e, hgg] at this
            simp at this
      · rw [if_neg hin, sc_ne hkp]
        have : i = n := by omega
        subst this
        exact hk1
    · intro i j hi hj hij
      unfold pushF at hij
      have := h.inj
      split at hij <;> split at hij
      · exact h.inj _ _ (by omega) (by omega) hij
      · exact absurd hij (hkn _ (by omega))
      · exact absurd hij.symm (hkn _ (by omega))
      · omega
    · intro i hi
      unfold pushF
      split
      · exact .inl (h.sk _ (by omega))
      · exact .inl hSk
    · rw [sc_ne (fun (e : b = p) => hs (e ▸ hSp)), hkeep b hb (fun (e : b = k) => hs (e ▸ hSk)) (fun e => hs (hob b e.symm).2.2.2)]
set_option maxHeartbeats 1000000 in
theorem Pop_m {S : Nat → Prop} {w : World} {p n : Nat} {mv ov : Value} {κ : Nat → Nat} {A O I : Nat → Int} (h : Hq S w p (n + 1) mv ov κ A O I) (hn : n ≤ 1000000000) (hSp : S p) :
    Calls Try.prog 43 #[.pointer (some ⟨p, 0, none⟩)] w fun e w' => e = .returned (.iface 54 (.pointer (some ⟨κ n, 0, none⟩))) ∧ Hq S w' p n mv ov κ A O I ∧ Fr S w w' ∧ w'.heap[κ n]? = w.heap[κ n]? ∧ ∀ j, j < n → κ j ≠ κ n := by
  obtain ⟨r, cap, h'⟩ := h.hp (by omega)
  have hnc := h'.nc
  have hcm := h'.cm
  have c0 := h'.cslice
  have f0 : w.frozen? ⟨p, 0, none⟩ = false := froz_b h'.hd
  have c1 := h'.crow (i := n) (by omega)
  have hlt : (n : Int) < ((n + 1 : Nat) : Int) := by omega
  have hnc' : (n : Int) ≤ (cap : Int) := by omega
  have hcm' : (cap : Int) ≤ 9223372036854775807 := by simp only [maxLen] at hcm; omega
  have hz : (((n + 1 : Nat) : Int) - 1) = (n : Int) := by omega
  go_enter Try.func43, Try.ntmps43
  go_wp2
  go_ret
  have hp1 : (w.setCell ⟨p, 0, none⟩ (.slice (some ⟨r, 0, none⟩) n cap)).heap[p]? = some (.cells #[.slice (some ⟨r, 0, none⟩) n cap, mv, ov] 53 (0, 0)) := sc_at h'.hd
  obtain ⟨cur, r1, r2, r3⟩ := h'.row
  have hrp := h'.rp
  refine ⟨rfl, (Hp.hq (r := r) (cap := cap) ⟨hp1, ⟨cur, by rw [sc_ne hrp]; exact r1, r2, fun i hi => r3 i (by omega)⟩, by omega, h'.cm, fun i hi => ?_, fun i j hi hj => h'.inj i j (by omega) (by omega), h'.sr, fun i hi => h'.sk i (by omega)⟩), ⟨by simp only [sc_size]; exact Nat.le_refl _, fun b hb hs => sc_ne (fun (e : b = p) => hs (e ▸ hSp)), rfl, rfl, rfl⟩, sc_ne (h'.kp (i := n) (by omega)), fun j hj e => by have := h'.inj j n (by omega) (by omega) e; omega⟩
  rw [sc_ne (h'.kp (i := i) (by omega))]
  exact h'.it i (by omega)
end Go.Proofs.Ytlaagbnclkhbjaa
