/- Topo: the queue's methods Len, Less, Swap. -/
import Derived.Test.YtgebehnlfihliaaTop6
namespace Go.Proofs.Ytgebehnlfihliaa
open Go.RowKit
set_option linter.unusedSimpArgs false
set_option linter.unusedVariables false
set_option maxRecDepth 100000
theorem qLen_c (o : Option Addr) (len cap : Nat) (w : World) : Calls Try.prog 34 #[.slice o len cap] w fun e w' => e = .returned (.int .i64 (len : Int)) ∧ w' = w := by
  go_enter Try.func34, Try.ntmps34
  go_wp2
  go_ret
  exact ⟨rfl, rfl⟩
set_option maxHeartbeats 1000000 in
theorem qLess_c (r i j len cap : Nat) (f1 f2 : Int) (hi : i < len) (hj : j < len) (w : World)
    (c1 : w.cell? ⟨r, i * 2 + 1, none⟩ = some (.int .i64 f1)) (c2 : w.cell? ⟨r, j * 2 + 1, none⟩ = some (.int .i64 f2)) :
    Calls Try.prog 119 #[.slice (some ⟨r, 0, none⟩) len cap, .int .i64 (i : Int), .int .i64 (j : Int)] w fun e w' => e = .returned (.bool (decide (f1 < f2))) ∧ ∃ n, w' = redrawn w n := by
  have hiI : (i : Int) < len := by omega
  have hjI : (j : Int) < len := by omega
  go_enter Try.func119, Try.ntmps119
  go_wp2_with fail
  go_quiet (fail)
  go_wp2
  go_ret
  exact ⟨rfl, _, rfl⟩
set_option maxHeartbeats 4000000 in
theorem qSwap_c (r i j len cap : Nat) (x1 f1 x2 f2 : Int) (hi : i < len) (hj : j < len) (hij : i ≠ j) (w : World)
    (c1 : w.cell? ⟨r, i * 2, none⟩ = some (.int .i64 x1)) (c2 : w.cell? ⟨r, i * 2 + 1, none⟩ = some (.int .i64 f1))
    (c3 : w.cell? ⟨r, j * 2, none⟩ = some (.int .i64 x2)) (c4 : w.cell? ⟨r, j * 2 + 1, none⟩ = some (.int .i64 f2))
    (g1 : w.frozen? ⟨r, i * 2, none⟩ = false) (g2 : w.frozen? ⟨r, i * 2 + 1, none⟩ = false) (g3 : w.frozen? ⟨r, j * 2, none⟩ = false) (g4 : w.frozen? ⟨r, j * 2 + 1, none⟩ = false) :
    Calls Try.prog 122 #[.slice (some ⟨r, 0, none⟩) len cap, .int .i64 (i : Int), .int .i64 (j : Int)] w fun e w' => e = .returned (.tuple #[]) ∧ ∃ n, w' = redrawn ((((w.setCell ⟨r, i * 2, none⟩ (.int .i64 x2)).setCell ⟨r, i * 2 + 1, none⟩ (.int .i64 f2)).setCell ⟨r, j * 2, none⟩ (.int .i64 x1)).setCell ⟨r, j * 2 + 1, none⟩ (.int .i64 f1)) n := by
  have hiI : (i : Int) < len := by omega
  have hjI : (j : Int) < len := by omega
  have hji : j ≠ i := fun e => hij e.symm
  have n1 : ¬ i * 2 = j * 2 := by omega
  have n2 : ¬ i * 2 = j * 2 + 1 := by omega
  have n3 : ¬ i * 2 + 1 = j * 2 := by omega
  have n4 : ¬ j * 2 = i * 2 := by omega
  have n5 : ¬ j * 2 = i * 2 + 1 := by omega
  have n6 : ¬ j * 2 + 1 = i * 2 := by omega
  go_enter Try.func122, Try.ntmps122
  go_wp2_with fail
  go_region
  go_wp2
  all_goals go_end0
  exact ⟨rfl, w.drawn + 1, rfl⟩
set_option maxHeartbeats 4000000 in
theorem qSwap_same (r i len cap : Nat) (x1 f1 : Int) (hi : i < len) (w : World)
    (c1 : w.cell? ⟨r, i * 2, none⟩ = some (.int .i64 x1)) (c2 : w.cell? ⟨r, i * 2 + 1, none⟩ = some (.int .i64 f1))
    (g1 : w.frozen? ⟨r, i * 2, none⟩ = false) (g2 : w.frozen? ⟨r, i * 2 + 1, none⟩ = false) :
    Calls Try.prog 122 #[.slice (some ⟨r, 0, none⟩) len cap, .int .i64 (i : Int), .int .i64 (i : Int)] w fun e w' => e = .returned (.tuple #[]) ∧ ∃ n, w' = redrawn ((((w.setCell ⟨r, i * 2, none⟩ (.int .i64 x1)).setCell ⟨r, i * 2 + 1, none⟩ (.int .i64 f1)).setCell ⟨r, i * 2, none⟩ (.int .i64 x1)).setCell ⟨r, i * 2 + 1, none⟩ (.int .i64 f1)) n := by
  have hiI : (i : Int) < len := by omega
  go_enter Try.func122, Try.ntmps122
  go_wp2_with fail
  go_region
  go_wp2
  all_goals go_end0
  exact ⟨rfl, w.drawn + 1, rfl⟩
/-! the queue as the calls see it: n places d 0, d 1, .. in block r; the slice in block p -/
structure Qp (w : World) (p r cap n : Nat) (d : Nat → Int × Int) : Prop where
  hd : w.heap[p]? = some (.cells #[.slice (some ⟨r, 0, none⟩) n cap] 82 (0, 0))
  row : ∃ cur : Array Value, w.heap[r]? = some (.cells cur 80 (0, 0)) ∧ cur.size = cap * 2 ∧ ∀ i, i < n → cur[i * 2]? = some (.int .i64 (d i).1) ∧ cur[i * 2 + 1]? = some (.int .i64 (d i).2)
  nc : n ≤ cap
  cm : cap ≤ maxLen
/-- only blocks of S have been turned; the heap may have grown. -/
structure Fr (S : Nat → Prop) (w w' : World) : Prop where
  size : w.heap.size ≤ w'.heap.size
  same : ∀ b, b < w.heap.size → ¬ S b → w'.heap[b]? = w.heap[b]?
  ro : w'.os = w.os ∧ w'.tape = w.tape ∧ w'.output = w.output
theorem Fr.refl (S : Nat → Prop) (w : World) : Fr S w w := ⟨Nat.le_refl _, fun _ _ _ => rfl, rfl, rfl, rfl⟩
theorem Fr.trans {S : Nat → Prop} {a b c : World} (h : Fr S a b) (k : Fr S b c) : Fr S a c :=
  ⟨Nat.le_trans h.size k.size, fun x hx hs => (k.same x (Nat.lt_of_lt_of_le hx h.size) hs).trans (h.same x hx hs), k.ro.1.trans h.ro.1, k.ro.2.1.trans h.ro.2.1, k.ro.2.2.trans h.ro.2.2⟩
theorem Fr.redrawn {S : Nat → Prop} {w w' : World} (h : Fr S w w') (n : Nat) : Fr S w (redrawn w' n) := ⟨h.size, h.same, h.ro⟩
theorem sc_ne {w : World} {b k o : Nat} {v : Value} (h : k ≠ b) : (w.setCell ⟨b, o, none⟩ v).heap[k]? = w.heap[k]? := by
  simp [World.setCell, Array.getElem?_modify, Ne.symm h]
theorem sc_size {w : World} {a : Addr} {v : Value} : (w.setCell a v).heap.size = w.heap.size := by simp [World.setCell]
theorem froz_b {w : World} {b o : Nat} {c : Array Value} {t : TypeId} (h : w.heap[b]? = some (.cells c t (0, 0))) : w.frozen? ⟨b, o, none⟩ = false := by
  simp [World.frozen?, h]
def swp {α : Type} (d : Nat → α) (i j : Nat) : Nat → α := fun t => if t = i then d j else if t = j then d i else d t
theorem Qp.redrawn {w : World} {p r cap n : Nat} {d : Nat → Int × Int} (h : Qp w p r cap n d) (m : Nat) : Qp (Go.redrawn w m) p r cap n d := ⟨h.hd, h.row, h.nc, h.cm⟩
theorem Qp.rp {w : World} {p r cap n : Nat} {d : Nat → Int × Int} (h : Qp w p r cap n d) : r ≠ p := fun e => by
  obtain ⟨cur, h1, _, _⟩ := h.row
  have h2 := h.hd
  rw [← e, h1] at h2; simp at h2
theorem Qp.cslice {w : World} {p r cap n : Nat} {d : Nat → Int × Int} (h : Qp w p r cap n d) : w.cell? ⟨p, 0, none⟩ = some (.slice (some ⟨r, 0, none⟩) n cap) := by rw [cell_b h.hd]; rfl
theorem Qp.cell {w : World} {p r cap n : Nat} {d : Nat → Int × Int} (h : Qp w p r cap n d) {i : Nat} (hi : i < n) : w.cell? ⟨r, i * 2, none⟩ = some (.int .i64 (d i).1) ∧ w.cell? ⟨r, i * 2 + 1, none⟩ = some (.int .i64 (d i).2) := by
  obtain ⟨cur, h1, _, h3⟩ := h.row
  rw [cell_b h1, cell_b h1]
  exact h3 i hi
theorem Qp.froz {w : World} {p r cap n : Nat} {d : Nat → Int × Int} (h : Qp w p r cap n d) (o : Nat) : w.frozen? ⟨r, o, none⟩ = false := by
  obtain ⟨cur, h1, _, _⟩ := h.row
  exact froz_b h1
theorem Qp.swap {w : World} {p r cap n : Nat} {d : Nat → Int × Int} (h : Qp w p r cap n d) {i j : Nat} (hi : i < n) (hj : j < n) (m : Nat) :
    Qp (Go.redrawn ((((w.setCell ⟨r, i * 2, none⟩ (.int .i64 (d j).1)).setCell ⟨r, i * 2 + 1, none⟩ (.int .i64 (d j).2)).setCell ⟨r, j * 2, none⟩ (.int .i64 (d i).1)).setCell ⟨r, j * 2 + 1, none⟩ (.int .i64 (d i).2)) m) p r cap n (swp d i j) ∧
    Fr (fun b => b = r) w (Go.redrawn ((((w.setCell ⟨r, i * 2, none⟩ (.int .i64 (d j).1)).setCell ⟨r, i * 2 + 1, none⟩ (.int .i64 (d j).2)).setCell ⟨r, j * 2, none⟩ (.int .i64 (d i).1)).setCell ⟨r, j * 2 + 1, none⟩ (.int .i64 (d i).2)) m) := by
  have e5 := h.rp
  have hnc := h.nc
  obtain ⟨cur, h1, h2, h3⟩ := h.row
  constructor
  · refine Qp.redrawn ⟨?_, ⟨_, sc_at (sc_at (sc_at (sc_at h1))), by simpa using h2, fun t ht => ?_⟩, h.nc, h.cm⟩ m
    · rw [sc_ne e5.symm, sc_ne e5.symm, sc_ne e5.symm, sc_ne e5.symm]; exact h.hd
    · have hb : t * 2 + 1 < cap * 2 := by omega
      unfold swp
      by_cases t2 : t = j
      · subst t2
        by_cases t1 : t = i
        · subst t1
          simp only [if_pos]
          constructor
          · rw [Array.getElem?_setIfInBounds_ne (by omega), Array.getElem?_setIfInBounds_self_of_lt (by simp; omega)]
          · rw [Array.getElem?_setIfInBounds_self_of_lt (by simp; omega)]
        · simp only [if_neg t1, if_pos]
          constructor
          · rw [Array.getElem?_setIfInBounds_ne (by omega), Array.getElem?_setIfInBounds_self_of_lt (by simp; omega)]
          · rw [Array.getElem?_setIfInBounds_self_of_lt (by simp; omega)]
      · by_cases t1 : t = i
        · subst t1
          simp only [if_pos]
          constructor
          · rw [Array.getElem?_setIfInBounds_ne (by omega), Array.getElem?_setIfInBounds_ne (by omega), Array.getElem?_setIfInBounds_ne (by omega), Array.getElem?_setIfInBounds_self_of_lt (by omega)]
          · rw [Array.getElem?_setIfInBounds_ne (by omega), Array.getElem?_setIfInBounds_ne (by omega), Array.getElem?_setIfInBounds_self_of_lt (by simp; omega)]
        · simp only [if_neg t1, if_neg t2]
          constructor
          · rw [Array.getElem?_setIfInBounds_ne (by omega), Array.getElem?_setIfInBounds_ne (by omega), Array.getElem?_setIfInBounds_ne (by omega), Array.getElem?_setIfInBounds_ne (by omega)]
            exact (h3 t ht).1
          · rw [Array.getElem?_setIfInBounds_ne (by omega), Array.getElem?_setIfInBounds_ne (by omega), Array.getElem?_setIfInBounds_ne (by omega), Array.getElem?_setIfInBounds_ne (by omega)]
            exact (h3 t ht).2
  · refine Fr.redrawn ?_ m
    refine ⟨by simp only [sc_size]; exact Nat.le_refl _, fun b hb hs => ?_, rfl, rfl, rfl⟩
    rw [sc_ne hs, sc_ne hs, sc_ne hs, sc_ne hs]
theorem qSwap_h {w : World} {p r cap n : Nat} {d : Nat → Int × Int} (h : Qp w p r cap n d) {i j : Nat} (hi : i < n) (hj : j < n) :
    Calls Try.prog 122 #[.slice (some ⟨r, 0, none⟩) n cap, .int .i64 (i : Int), .int .i64 (j : Int)] w fun e w' => e = .returned (.tuple #[]) ∧ Qp w' p r cap n (swp d i j) ∧ Fr (fun b => b = r) w w' := by
  by_cases hij : i = j
  · subst hij
    refine (qSwap_same r i n cap _ _ hi w (h.cell hi).1 (h.cell hi).2 (h.froz _) (h.froz _)).mono ?_
    rintro e w' ⟨rfl, m, rfl⟩
    exact ⟨rfl, h.swap hi hi m⟩
  · refine (qSwap_c r i j n cap _ _ _ _ hi hj hij w (h.cell hi).1 (h.cell hi).2 (h.cell hj).1 (h.cell hj).2 (h.froz _) (h.froz _) (h.froz _) (h.froz _)).mono ?_
    rintro e w' ⟨rfl, m, rfl⟩
    exact ⟨rfl, h.swap hi hj m⟩
theorem qLess_h {w : World} {p r cap n : Nat} {d : Nat → Int × Int} (h : Qp w p r cap n d) {i j : Nat} (hi : i < n) (hj : j < n) :
    Calls Try.prog 119 #[.slice (some ⟨r, 0, none⟩) n cap, .int .i64 (i : Int), .int .i64 (j : Int)] w fun e w' => e = .returned (.bool (decide ((d i).2 < (d j).2))) ∧ ∃ n, w' = Go.redrawn w n :=
  qLess_c r i j n cap _ _ hi hj w (h.cell hi).2 (h.cell hj).2
end Go.Proofs.Ytgebehnlfihliaa
