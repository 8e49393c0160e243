/- Delta: opening the arguments: configurations, changes. -/
import Derived.Test.YtdmakcfgcgioeaaRows
import Derived.Test.YtdmakcfgcgioeaaDPl
import Derived.Deep.Slices
import Derived.Deep.Fields
import Derived.ChangeSame
import Derived.ChangeSlices
import Derived.JoinedCond
import Derived.ProofKit
import Derived.OpenShut
namespace Go.Proofs.Ytdmakcfgcgioeaa.bulks
theorem one_le {H : Type} (d : DataW H) : 1 ≤ Rows.uptoBulk d := by
  cases d with
  | lit l => cases l <;> simp [Rows.uptoBulk]
  | _ => simp [Rows.uptoBulk]
theorem append {H : Type} (l r : List (DataW H)) : Rows.uptoBulkAll (l ++ r) = Rows.uptoBulkAll l + Rows.uptoBulkAll r := by
  induction l with
  | nil => simp [Rows.uptoBulkAll]
  | cons x l ih => simp only [List.cons_append, Rows.uptoBulkAll, ih]; omega
theorem length_le {H : Type} (l : List (DataW H)) : l.length ≤ Rows.uptoBulkAll l := by
  induction l with
  | nil => simp [Rows.uptoBulkAll]
  | cons x r ih => have := one_le x; simp only [Rows.uptoBulkAll, List.length_cons]; omega
theorem slice_le {H : Type} (elems spare : List (DataW H)) : elems.length + spare.length + 1 ≤ Rows.uptoBulk (.slice elems spare) := by
  have h1 := length_le elems
  have h2 := length_le spare
  simp only [Rows.uptoBulk]
  omega
theorem slice_elems {H : Type} (elems spare : List (DataW H)) : Rows.uptoBulkAll elems + 1 ≤ Rows.uptoBulk (.slice elems spare) := by
  simp only [Rows.uptoBulk]
  omega
end Go.Proofs.Ytdmakcfgcgioeaa.bulks
namespace Go.Proofs.Ytdmakcfgcgioeaa
open Go.ChangeShapes Go.WideShapes Go.ChangeAt Go.RowKit Go.Deep
set_option maxRecDepth 100000
set_option linter.unusedVariables false
set_option linter.unusedSimpArgs false
theorem add_at {b off : Nat} {s : Option Nat} {w : World} {i : Nat} {v : Value} (h : w.cell? ((⟨b, off, s⟩ : Addr).add i) = some v) : w.cell? ⟨b, off + i, none⟩ = some v ∧ b < w.heap.size := by
  have h1 : w.cell? ⟨b, off + i, none⟩ = some v := by
    unfold Addr.add at h
    split at h
    · rename_i e
      subst e
      unfold World.cell? at h ⊢
      split at h
      · rename_i hb
        simp only [hb]
        cases s with
        | none => simpa using h
        | some x => simp at h
      · cases h
    · exact h
  exact ⟨h1, World.block_lt_of_cell? w ⟨b, off + i, none⟩ h1⟩
theorem spot_none {b off : Nat} {s : Option Nat} {w : World} {v : Value} (h : w.cell? ((⟨b, off, s⟩ : Addr).add 0) = some v) : s = none := by
  unfold Addr.add at h
  simp at h
  unfold World.cell? at h
  split at h
  · cases s with
    | none => rfl
    | some x => simp at h
  · cases h
theorem fl31 : ∃ f0 f1 f2 : Field, Try.prog.underlying 31 = some (.struct #[f0, f1, f2]) ∧ f0.offset = 0 ∧ f0.type = 24 ∧ f1.offset = 1 ∧ f1.type = 28 ∧ f2.offset = 4 ∧ f2.type = 29 := by
  have h : (Try.prog.underlying 31).map (fun d => match d with | .struct fs => fs.toList.map (fun f => (f.offset, f.type)) | _ => []) = some [(0, 24), (1, 28), (4, 29)] := by kernel_rfl
  obtain ⟨d, hd, hf⟩ := Option.map_eq_some_iff.1 h
  cases d with
  | struct fs =>
    simp only at hf
    obtain ⟨l⟩ := fs
    match l, hf with
    | [f0, f1, f2], hf =>
      simp at hf
      exact ⟨f0, f1, f2, hd, by simp [hf]⟩
    | [], hf => simp at hf
    | [_], hf => simp at hf
    | [_, _], hf => simp at hf
    | _ :: _ :: _ :: _ :: _, hf => simp at hf
  | _ => simp at hf
theorem fl24 : ∃ f0 : Field, Try.prog.underlying 24 = some (.struct #[f0]) ∧ f0.offset = 0 ∧ f0.type = 22 := by
  have h : (Try.prog.underlying 24).map (fun d => match d with | .struct fs => fs.toList.map (fun f => (f.offset, f.type)) | _ => []) = some [(0, 22)] := by kernel_rfl
  obtain ⟨d, hd, hf⟩ := Option.map_eq_some_iff.1 h
  cases d with
  | struct fs =>
    simp only at hf
    obtain ⟨l⟩ := fs
    match l, hf with
    | [f0], hf =>
      simp at hf
      exact ⟨f0, hd, by simp [hf]⟩
    | [], hf => simp at hf
    | _ :: _ :: _, hf => simp at hf
  | _ => simp at hf
theorem fl28 : ∃ f0 f1 f2 : Field, Try.prog.underlying 28 = some (.struct #[f0, f1, f2]) ∧ f0.offset = 0 ∧ f0.type = 3 ∧ f1.offset = 1 ∧ f1.type = 25 ∧ f2.offset = 2 ∧ f2.type = 26 := by
  have h : (Try.prog.underlying 28).map (fun d => match d with | .struct fs => fs.toList.map (fun f => (f.offset, f.type)) | _ => []) = some [(0, 3), (1, 25), (2, 26)] := by kernel_rfl
  obtain ⟨d, hd, hf⟩ := Option.map_eq_some_iff.1 h
  cases d with
  | struct fs =>
    simp only at hf
    obtain ⟨l⟩ := fs
    match l, hf with
    | [f0, f1, f2], hf =>
      simp at hf
      exact ⟨f0, f1, f2, hd, by simp [hf]⟩
    | [], hf => simp at hf
    | [_], hf => simp at hf
    | [_, _], hf => simp at hf
    | _ :: _ :: _ :: _ :: _, hf => simp at hf
  | _ => simp at hf
theorem fl53 : ∃ f0 f1 f2 : Field, Try.prog.underlying 53 = some (.struct #[f0, f1, f2]) ∧ f0.offset = 0 ∧ f0.type = 3 ∧ f1.offset = 1 ∧ f1.type = 49 ∧ f2.offset = 5 ∧ f2.type = 51 := by
  have h : (Try.prog.underlying 53).map (fun d => match d with | .struct fs => fs.toList.map (fun f => (f.offset, f.type)) | _ => []) = some [(0, 3), (1, 49), (5, 51)] := by kernel_rfl
  obtain ⟨d, hd, hf⟩ := Option.map_eq_some_iff.1 h
  cases d with
  | struct fs =>
    simp only at hf
    obtain ⟨l⟩ := fs
    match l, hf with
    | [f0, f1, f2], hf =>
      simp at hf
      exact ⟨f0, f1, f2, hd, by simp [hf]⟩
    | [], hf => simp at hf
    | [_], hf => simp at hf
    | [_, _], hf => simp at hf
    | _ :: _ :: _ :: _ :: _, hf => simp at hf
  | _ => simp at hf
theorem fl49 : ∃ f0 f1 : Field, Try.prog.underlying 49 = some (.struct #[f0, f1]) ∧ f0.offset = 0 ∧ f0.type = 47 ∧ f1.offset = 2 ∧ f1.type = 47 := by
  have h : (Try.prog.underlying 49).map (fun d => match d with | .struct fs => fs.toList.map (fun f => (f.offset, f.type)) | _ => []) = some [(0, 47), (2, 47)] := by kernel_rfl
  obtain ⟨d, hd, hf⟩ := Option.map_eq_some_iff.1 h
  cases d with
  | struct fs =>
    simp only at hf
    obtain ⟨l⟩ := fs
    match l, hf with
    | [f0, f1], hf =>
      simp at hf
      exact ⟨f0, f1, hd, by simp [hf]⟩
    | [], hf => simp at hf
    | [_], hf => simp at hf
    | _ :: _ :: _ :: _, hf => simp at hf
  | _ => simp at hf
theorem fl47 : ∃ f0 f1 : Field, Try.prog.underlying 47 = some (.struct #[f0, f1]) ∧ f0.offset = 0 ∧ f0.type = 45 ∧ f1.offset = 1 ∧ f1.type = 45 := by
  have h : (Try.prog.underlying 47).map (fun d => match d with | .struct fs => fs.toList.map (fun f => (f.offset, f.type)) | _ => []) = some [(0, 45), (1, 45)] := by kernel_rfl
  obtain ⟨d, hd, hf⟩ := Option.map_eq_some_iff.1 h
  cases d with
  | struct fs =>
    simp only at hf
    obtain ⟨l⟩ := fs
    match l, hf with
    | [f0, f1], hf =>
      simp at hf
      exact ⟨f0, f1, hd, by simp [hf]⟩
    | [], hf => simp at hf
    | [_], hf => simp at hf
    | _ :: _ :: _ :: _, hf => simp at hf
  | _ => simp at hf
theorem fl51 : ∃ f0 f1 f2 f3 : Field, Try.prog.underlying 51 = some (.struct #[f0, f1, f2, f3]) ∧ f0.offset = 0 ∧ f0.type = 3 ∧ f1.offset = 1 ∧ f1.type = 3 ∧ f2.offset = 2 ∧ f2.type = 3 ∧ f3.offset = 3 ∧ f3.type = 49 := by
  have h : (Try.prog.underlying 51).map (fun d => match d with | .struct fs => fs.toList.map (fun f => (f.offset, f.type)) | _ => []) = some [(0, 3), (1, 3), (2, 3), (3, 49)] := by kernel_rfl
  obtain ⟨d, hd, hf⟩ := Option.map_eq_some_iff.1 h
  cases d with
  | struct fs =>
    simp only at hf
    obtain ⟨l⟩ := fs
    match l, hf with
    | [f0, f1, f2, f3], hf =>
      simp at hf
      exact ⟨f0, f1, f2, f3, hd, by simp [hf]⟩
    | [], hf => simp at hf
    | [_], hf => simp at hf
    | [_, _], hf => simp at hf
    | [_, _, _], hf => simp at hf
    | _ :: _ :: _ :: _ :: _ :: _, hf => simp at hf
  | _ => simp at hf
theorem fl55 : ∃ f0 f1 f2 f3 f4 : Field, Try.prog.underlying 55 = some (.struct #[f0, f1, f2, f3, f4]) ∧ f0.offset = 0 ∧ f0.type = 3 ∧ f1.offset = 1 ∧ f1.type = 3 ∧ f2.offset = 2 ∧ f2.type = 3 ∧ f3.offset = 3 ∧ f3.type = 4 ∧ f4.offset = 4 ∧ f4.type = 53 := by
  have h : (Try.prog.underlying 55).map (fun d => match d with | .struct fs => fs.toList.map (fun f => (f.offset, f.type)) | _ => []) = some [(0, 3), (1, 3), (2, 3), (3, 4), (4, 53)] := by kernel_rfl
  obtain ⟨d, hd, hf⟩ := Option.map_eq_some_iff.1 h
  cases d with
  | struct fs =>
    simp only at hf
    obtain ⟨l⟩ := fs
    match l, hf with
    | [f0, f1, f2, f3, f4], hf =>
      simp at hf
      exact ⟨f0, f1, f2, f3, f4, hd, by simp [hf]⟩
    | [], hf => simp at hf
    | [_], hf => simp at hf
    | [_, _], hf => simp at hf
    | [_, _, _], hf => simp at hf
    | [_, _, _, _], hf => simp at hf
    | _ :: _ :: _ :: _ :: _ :: _ :: _, hf => simp at hf
  | _ => simp at hf
theorem fl65 : ∃ f0 f1 f2 : Field, Try.prog.underlying 65 = some (.struct #[f0, f1, f2]) ∧ f0.offset = 0 ∧ f0.type = 3 ∧ f1.offset = 1 ∧ f1.type = 3 ∧ f2.offset = 2 ∧ f2.type = 3 := by
  have h : (Try.prog.underlying 65).map (fun d => match d with | .struct fs => fs.toList.map (fun f => (f.offset, f.type)) | _ => []) = some [(0, 3), (1, 3), (2, 3)] := by kernel_rfl
  obtain ⟨d, hd, hf⟩ := Option.map_eq_some_iff.1 h
  cases d with
  | struct fs =>
    simp only at hf
    obtain ⟨l⟩ := fs
    match l, hf with
    | [f0, f1, f2], hf =>
      simp at hf
      exact ⟨f0, f1, f2, hd, by simp [hf]⟩
    | [], hf => simp at hf
    | [_], hf => simp at hf
    | [_, _], hf => simp at hf
    | _ :: _ :: _ :: _ :: _, hf => simp at hf
  | _ => simp at hf
theorem fl73 : ∃ f0 f1 f2 f3 f4 : Field, Try.prog.underlying 73 = some (.struct #[f0, f1, f2, f3, f4]) ∧ f0.offset = 0 ∧ f0.type = 3 ∧ f1.offset = 1 ∧ f1.type = 3 ∧ f2.offset = 2 ∧ f2.type = 3 ∧ f3.offset = 3 ∧ f3.type = 3 ∧ f4.offset = 4 ∧ f4.type = 3 := by
  have h : (Try.prog.underlying 73).map (fun d => match d with | .struct fs => fs.toList.map (fun f => (f.offset, f.type)) | _ => []) = some [(0, 3), (1, 3), (2, 3), (3, 3), (4, 3)] := by kernel_rfl
  obtain ⟨d, hd, hf⟩ := Option.map_eq_some_iff.1 h
  cases d with
  | struct fs =>
    simp only at hf
    obtain ⟨l⟩ := fs
    match l, hf with
    | [f0, f1, f2, f3, f4], hf =>
      simp at hf
      exact ⟨f0, f1, f2, f3, f4, hd, by simp [hf]⟩
    | [], hf => simp at hf
    | [_], hf => simp at hf
    | [_, _], hf => simp at hf
    | [_, _, _], hf => simp at hf
    | [_, _, _, _], hf => simp at hf
    | _ :: _ :: _ :: _ :: _ :: _ :: _, hf => simp at hf
  | _ => simp at hf
theorem cz31 : Try.prog.cellsOf 31 = 5 := by kernel_rfl
theorem cz24 : Try.prog.cellsOf 24 = 1 := by kernel_rfl
theorem cz28 : Try.prog.cellsOf 28 = 3 := by kernel_rfl
theorem cz53 : Try.prog.cellsOf 53 = 12 := by kernel_rfl
theorem cz49 : Try.prog.cellsOf 49 = 4 := by kernel_rfl
theorem cz47 : Try.prog.cellsOf 47 = 2 := by kernel_rfl
theorem cz51 : Try.prog.cellsOf 51 = 7 := by kernel_rfl
theorem cz55 : Try.prog.cellsOf 55 = 16 := by kernel_rfl
theorem cz65 : Try.prog.cellsOf 65 = 3 := by kernel_rfl
theorem cz73 : Try.prog.cellsOf 73 = 5 := by kernel_rfl
theorem cz45 : Try.prog.cellsOf 45 = 1 := by kernel_rfl
theorem cz3 : Try.prog.cellsOf 3 = 1 := by kernel_rfl
theorem cz4 : Try.prog.cellsOf 4 = 1 := by kernel_rfl
theorem cz22 : Try.prog.cellsOf 22 = 1 := by kernel_rfl
theorem cz25 : Try.prog.cellsOf 25 = 1 := by kernel_rfl
theorem cz26 : Try.prog.cellsOf 26 = 1 := by kernel_rfl
theorem cz29 : Try.prog.cellsOf 29 = 1 := by kernel_rfl
theorem cz43 : Try.prog.cellsOf 43 = 1 := by kernel_rfl
theorem cz44 : Try.prog.cellsOf 44 = 1 := by kernel_rfl
theorem cz58 : Try.prog.cellsOf 58 = 1 := by kernel_rfl
theorem cz63 : Try.prog.cellsOf 63 = 2 := by kernel_rfl
theorem un3 : Try.prog.underlying 3 = some (.int .i64) := by kernel_rfl
theorem un45 : Try.prog.underlying 45 = some (.int .u64) := by kernel_rfl
theorem un4 : Try.prog.underlying 4 = some (.bool) := by kernel_rfl
theorem un63 : Try.prog.underlying 63 = some (.array 2 3) := by kernel_rfl
section
variable {H : Type} {enc : TypeId × Value → H} {W : World} {base : Nat} {spare : Nat → Bool} {held : Bool}
theorem tr47 {n : Nat} {cs : List Value} {x : DataW H × List MemPlace} (h : DataW.trod enc Try.prog W base spare held n 47 cs = some x) :
    ∃ (a0 : Int) (a1 : Int), cs = [.int .u64 a0, .int .u64 a1] := by
  obtain ⟨f0, f1, hs, o0, t0, o1, t1⟩ := fl47
  obtain ⟨ys, k, _, _, hl, hyl, hf⟩ := DataW.trod_struct hs h
  have g0 := hf 0 f0 rfl
  rw [o0, t0, cz45] at g0
  have g1 := hf 1 f1 rfl
  rw [o1, t1, cz45] at g1
  rw [cz47] at hl
  match cs, hl with
  | [c0, c1], _ =>
    match ys, hyl with
    | [y0, y1], _ =>
      obtain ⟨a0, e0, _, _⟩ := DataW.trod_int (x := y0) un45 (by simpa using g0)
      obtain ⟨a1, e1, _, _⟩ := DataW.trod_int (x := y1) un45 (by simpa using g1)
      simp at e0 e1
      subst e0
      subst e1
      exact ⟨a0, a1, rfl⟩
theorem tr49 {n : Nat} {cs : List Value} {x : DataW H × List MemPlace} (h : DataW.trod enc Try.prog W base spare held n 49 cs = some x) :
    ∃ (a0 : Int) (a1 : Int) (a2 : Int) (a3 : Int), cs = [.int .u64 a0, .int .u64 a1, .int .u64 a2, .int .u64 a3] := by
  obtain ⟨f0, f1, hs, o0, t0, o1, t1⟩ := fl49
  obtain ⟨ys, k, _, _, hl, hyl, hf⟩ := DataW.trod_struct hs h
  have g0 := hf 0 f0 rfl
  rw [o0, t0, cz47] at g0
  have g1 := hf 1 f1 rfl
  rw [o1, t1, cz47] at g1
  rw [cz49] at hl
  match cs, hl with
  | [c0, c1, c2, c3], _ =>
    match ys, hyl with
    | [y0, y1], _ =>
      obtain ⟨a0, a1, e0⟩ := tr47 (cs := [c0, c1]) (x := y0) (by simpa using g0)
      obtain ⟨a2, a3, e1⟩ := tr47 (cs := [c2, c3]) (x := y1) (by simpa using g1)
      simp at e0 e1
      obtain ⟨rfl, rfl⟩ := e0
      obtain ⟨rfl, rfl⟩ := e1
      exact ⟨a0, a1, a2, a3, rfl⟩
theorem tr51 {n : Nat} {cs : List Value} {x : DataW H × List MemPlace} (h : DataW.trod enc Try.prog W base spare held n 51 cs = some x) :
    ∃ (a0 : Int) (a1 : Int) (a2 : Int) (a3 : Int) (a4 : Int) (a5 : Int) (a6 : Int), cs = [.int .i64 a0, .int .i64 a1, .int .i64 a2, .int .u64 a3, .int .u64 a4, .int .u64 a5, .int .u64 a6] := by
  obtain ⟨f0, f1, f2, f3, hs, o0, t0, o1, t1, o2, t2, o3, t3⟩ := fl51
  obtain ⟨ys, k, _, _, hl, hyl, hf⟩ := DataW.trod_struct hs h
  have g0 := hf 0 f0 rfl
  rw [o0, t0, cz3] at g0
  have g1 := hf 1 f1 rfl
  rw [o1, t1, cz3] at g1
  have g2 := hf 2 f2 rfl
  rw [o2, t2, cz3] at g2
  have g3 := hf 3 f3 rfl
  rw [o3, t3, cz49] at g3
  rw [cz51] at hl
  match cs, hl with
  | [c0, c1, c2, c3, c4, c5, c6], _ =>
    match ys, hyl with
    | [y0, y1, y2, y3], _ =>
      obtain ⟨a0, e0, _, _⟩ := DataW.trod_int (x := y0) un3 (by simpa using g0)
      obtain ⟨a1, e1, _, _⟩ := DataW.trod_int (x := y1) un3 (by simpa using g1)
      obtain ⟨a2, e2, _, _⟩ := DataW.trod_int (x := y2) un3 (by simpa using g2)
      obtain ⟨a3, a4, a5, a6, e3⟩ := tr49 (cs := [c3, c4, c5, c6]) (x := y3) (by simpa using g3)
      simp at e0 e1 e2 e3
      subst e0
      subst e1
      subst e2
      obtain ⟨rfl, rfl, rfl, rfl⟩ := e3
      exact ⟨a0, a1, a2, a3, a4, a5, a6, rfl⟩
theorem tr53 {n : Nat} {cs : List Value} {x : DataW H × List MemPlace} (h : DataW.trod enc Try.prog W base spare held n 53 cs = some x) :
    ∃ (a0 : Int) (a1 : Int) (a2 : Int) (a3 : Int) (a4 : Int) (a5 : Int) (a6 : Int) (a7 : Int) (a8 : Int) (a9 : Int) (a10 : Int) (a11 : Int), cs = [.int .i64 a0, .int .u64 a1, .int .u64 a2, .int .u64 a3, .int .u64 a4, .int .i64 a5, .int .i64 a6, .int .i64 a7, .int .u64 a8, .int .u64 a9, .int .u64 a10, .int .u64 a11] := by
  obtain ⟨f0, f1, f2, hs, o0, t0, o1, t1, o2, t2⟩ := fl53
  obtain ⟨ys, k, _, _, hl, hyl, hf⟩ := DataW.trod_struct hs h
  have g0 := hf 0 f0 rfl
  rw [o0, t0, cz3] at g0
  have g1 := hf 1 f1 rfl
  rw [o1, t1, cz49] at g1
  have g2 := hf 2 f2 rfl
  rw [o2, t2, cz51] at g2
  rw [cz53] at hl
  match cs, hl with
  | [c0, c1, c2, c3, c4, c5, c6, c7, c8, c9, c10, c11], _ =>
    match ys, hyl with
    | [y0, y1, y2], _ =>
      obtain ⟨a0, e0, _, _⟩ := DataW.trod_int (x := y0) un3 (by simpa using g0)
      obtain ⟨a1, a2, a3, a4, e1⟩ := tr49 (cs := [c1, c2, c3, c4]) (x := y1) (by simpa using g1)
      obtain ⟨a5, a6, a7, a8, a9, a10, a11, e2⟩ := tr51 (cs := [c5, c6, c7, c8, c9, c10, c11]) (x := y2) (by simpa using g2)
      simp at e0 e1 e2
      subst e0
      obtain ⟨rfl, rfl, rfl, rfl⟩ := e1
      obtain ⟨rfl, rfl, rfl, rfl, rfl, rfl, rfl⟩ := e2
      exact ⟨a0, a1, a2, a3, a4, a5, a6, a7, a8, a9, a10, a11, rfl⟩
theorem tr55 {n : Nat} {cs : List Value} {x : DataW H × List MemPlace} (h : DataW.trod enc Try.prog W base spare held n 55 cs = some x) :
    ∃ (a0 : Int) (a1 : Int) (a2 : Int) (a3 : Bool) (a4 : Int) (a5 : Int) (a6 : Int) (a7 : Int) (a8 : Int) (a9 : Int) (a10 : Int) (a11 : Int) (a12 : Int) (a13 : Int) (a14 : Int) (a15 : Int), cs = [.int .i64 a0, .int .i64 a1, .int .i64 a2, .bool a3, .int .i64 a4, .int .u64 a5, .int .u64 a6, .int .u64 a7, .int .u64 a8, .int .i64 a9, .int .i64 a10, .int .i64 a11, .int .u64 a12, .int .u64 a13, .int .u64 a14, .int .u64 a15] := by
  obtain ⟨f0, f1, f2, f3, f4, hs, o0, t0, o1, t1, o2, t2, o3, t3, o4, t4⟩ := fl55
  obtain ⟨ys, k, _, _, hl, hyl, hf⟩ := DataW.trod_struct hs h
  have g0 := hf 0 f0 rfl
  rw [o0, t0, cz3] at g0
  have g1 := hf 1 f1 rfl
  rw [o1, t1, cz3] at g1
  have g2 := hf 2 f2 rfl
  rw [o2, t2, cz3] at g2
  have g3 := hf 3 f3 rfl
  rw [o3, t3, cz4] at g3
  have g4 := hf 4 f4 rfl
  rw [o4, t4, cz53] at g4
  rw [cz55] at hl
  match cs, hl with
  | [c0, c1, c2, c3, c4, c5, c6, c7, c8, c9, c10, c11, c12, c13, c14, c15], _ =>
    match ys, hyl with
    | [y0, y1, y2, y3, y4], _ =>
      obtain ⟨a0, e0, _, _⟩ := DataW.trod_int (x := y0) un3 (by simpa using g0)
      obtain ⟨a1, e1, _, _⟩ := DataW.trod_int (x := y1) un3 (by simpa using g1)
      obtain ⟨a2, e2, _, _⟩ := DataW.trod_int (x := y2) un3 (by simpa using g2)
      obtain ⟨a3, e3, _⟩ := DataW.trod_bool (x := y3) un4 (by simpa using g3)
      obtain ⟨a4, a5, a6, a7, a8, a9, a10, a11, a12, a13, a14, a15, e4⟩ := tr53 (cs := [c4, c5, c6, c7, c8, c9, c10, c11, c12, c13, c14, c15]) (x := y4) (by simpa using g4)
      simp at e0 e1 e2 e3 e4
      subst e0
      subst e1
      subst e2
      subst e3
      obtain ⟨rfl, rfl, rfl, rfl, rfl, rfl, rfl, rfl, rfl, rfl, rfl, rfl⟩ := e4
      exact ⟨a0, a1, a2, a3, a4, a5, a6, a7, a8, a9, a10, a11, a12, a13, a14, a15, rfl⟩
theorem tr65 {n : Nat} {cs : List Value} {x : DataW H × List MemPlace} (h : DataW.trod enc Try.prog W base spare held n 65 cs = some x) :
    ∃ (a0 : Int) (a1 : Int) (a2 : Int), cs = [.int .i64 a0, .int .i64 a1, .int .i64 a2] := by
  obtain ⟨f0, f1, f2, hs, o0, t0, o1, t1, o2, t2⟩ := fl65
  obtain ⟨ys, k, _, _, hl, hyl, hf⟩ := DataW.trod_struct hs h
  have g0 := hf 0 f0 rfl
  rw [o0, t0, cz3] at g0
  have g1 := hf 1 f1 rfl
  rw [o1, t1, cz3] at g1
  have g2 := hf 2 f2 rfl
  rw [o2, t2, cz3] at g2
  rw [cz65] at hl
  match cs, hl with
  | [c0, c1, c2], _ =>
    match ys, hyl with
    | [y0, y1, y2], _ =>
      obtain ⟨a0, e0, _, _⟩ := DataW.trod_int (x := y0) un3 (by simpa using g0)
      obtain ⟨a1, e1, _, _⟩ := DataW.trod_int (x := y1) un3 (by simpa using g1)
      obtain ⟨a2, e2, _, _⟩ := DataW.trod_int (x := y2) un3 (by simpa using g2)
      simp at e0 e1 e2
      subst e0
      subst e1
      subst e2
      exact ⟨a0, a1, a2, rfl⟩
theorem tr73 {n : Nat} {cs : List Value} {x : DataW H × List MemPlace} (h : DataW.trod enc Try.prog W base spare held n 73 cs = some x) :
    ∃ (a0 : Int) (a1 : Int) (a2 : Int) (a3 : Int) (a4 : Int), cs = [.int .i64 a0, .int .i64 a1, .int .i64 a2, .int .i64 a3, .int .i64 a4] := by
  obtain ⟨f0, f1, f2, f3, f4, hs, o0, t0, o1, t1, o2, t2, o3, t3, o4, t4⟩ := fl73
  obtain ⟨ys, k, _, _, hl, hyl, hf⟩ := DataW.trod_struct hs h
  have g0 := hf 0 f0 rfl
  rw [o0, t0, cz3] at g0
  have g1 := hf 1 f1 rfl
  rw [o1, t1, cz3] at g1
  have g2 := hf 2 f2 rfl
  rw [o2, t2, cz3] at g2
  have g3 := hf 3 f3 rfl
  rw [o3, t3, cz3] at g3
  have g4 := hf 4 f4 rfl
  rw [o4, t4, cz3] at g4
  rw [cz73] at hl
  match cs, hl with
  | [c0, c1, c2, c3, c4], _ =>
    match ys, hyl with
    | [y0, y1, y2, y3, y4], _ =>
      obtain ⟨a0, e0, _, _⟩ := DataW.trod_int (x := y0) un3 (by simpa using g0)
      obtain ⟨a1, e1, _, _⟩ := DataW.trod_int (x := y1) un3 (by simpa using g1)
      obtain ⟨a2, e2, _, _⟩ := DataW.trod_int (x := y2) un3 (by simpa using g2)
      obtain ⟨a3, e3, _, _⟩ := DataW.trod_int (x := y3) un3 (by simpa using g3)
      obtain ⟨a4, e4, _, _⟩ := DataW.trod_int (x := y4) un3 (by simpa using g4)
      simp at e0 e1 e2 e3 e4
      subst e0
      subst e1
      subst e2
      subst e3
      subst e4
      exact ⟨a0, a1, a2, a3, a4, rfl⟩
theorem tr63 {n : Nat} {cs : List Value} {x : DataW H × List MemPlace} (h : DataW.trod enc Try.prog W base spare held n 63 cs = some x) :
    ∃ (a b : Int), cs = [.int .i64 a, .int .i64 b] := by
  obtain ⟨ys, k, _, _, hl, hyl, hf⟩ := DataW.trod_array un63 h
  have g0 := hf 0 (by omega)
  have g1 := hf 1 (by omega)
  rw [cz3] at g0 g1
  rw [cz63] at hl
  match cs, hl with
  | [c0, c1], _ =>
    match ys, hyl with
    | [y0, y1], _ =>
      obtain ⟨a, e0, _, w0⟩ := DataW.trod_int (x := y0) un3 (by simpa using g0)
      obtain ⟨b, e1, _, w1⟩ := DataW.trod_int (x := y1) un3 (by simpa using g1)
      simp at e0 e1
      subst e0 e1
      exact ⟨a, b, rfl⟩
theorem sum_range_le {n : Nat} {f g : Nat → Nat} (h : ∀ i, i < n → f i ≤ g i) : ((List.range n).map f).sum ≤ ((List.range n).map g).sum := by
  induction n with
  | zero => exact Nat.le_refl _
  | succ n ih =>
    rw [List.range_succ, List.map_append, List.map_append, List.sum_append, List.sum_append]
    have h1 := ih fun i hi => h i (by omega)
    have h2 := h n (by omega)
    simp only [List.map_cons, List.map_nil, List.sum_cons, List.sum_nil]
    omega
theorem sum_ones : ∀ n : Nat, ((List.range n).map fun _ => 1).sum = n
  | 0 => rfl
  | n + 1 => by rw [List.range_succ, List.map_append, List.sum_append, sum_ones n]; rfl
theorem bulk_sum (D : Nat → DataW H) : ∀ n, ((List.range n).map fun i => Rows.uptoBulk (D i)).sum = Rows.uptoBulkAll ((List.range n).map D)
  | 0 => rfl
  | n + 1 => by
    rw [List.range_succ, List.map_append, List.map_append, List.sum_append, bulks.append, bulk_sum D n]
    simp [Rows.uptoBulkAll]
/-- a row of whatever. -/
theorem open_any {α : Type} (dflt : α) {t e : TypeId} {sz : Nat} (ht : Try.prog.underlying t = some (.slice e)) (hsz : Try.prog.cellsOf e = sz) (hpos : 0 < sz) (R : List Value → α → Nat → Prop)
    (hel : ∀ {n : Nat} {cs : List Value} {x : DataW H × List MemPlace}, DataW.trod enc Try.prog W base spare held n e cs = some x → ∃ z, R cs z (Rows.uptoBulk x.1))
    {fuel : Nat} {c : Value} {x : DataW H × List MemPlace} (h : DataW.trod enc Try.prog W base spare held fuel t [c] = some x) :
    ∃ (o : Option Addr) (n cap : Nat) (f : Nat → α) (cs : Nat → List Value) (d : Nat → Nat), c = .slice o n cap ∧ (o = none → n = 0 ∧ cap = 0) ∧ (∀ i, (cs i).length = sz) ∧ Rd W o n cap ((List.range n).flatMap cs) ∧ (∀ i, i < n → R (cs i) (f i) (d i)) ∧ ((List.range n).map d).sum + 1 ≤ Rows.uptoBulk x.1 := by
  rcases open_slice ht h with ⟨hcs, hxn⟩ | ⟨a, len, cap', m', n', D, Pl, hcs, hb, hl, hmx, hmm, hx, hi⟩
  · simp at hcs
    subst hcs
    exact ⟨none, 0, 0, fun _ => dflt, fun _ => List.replicate sz undef, fun _ => 0, rfl, fun _ => ⟨rfl, rfl⟩, fun _ => by simp, ⟨Nat.le_refl _, Nat.zero_le _, 0, 0, fun h => by omega, fun j u hu => by simp at hu⟩, fun i hi => by omega, by rw [hxn]; simp [Rows.uptoBulk]⟩
  · simp at hcs
    subst hcs
    have hlm : len ≤ m' := by rw [hmm]; split <;> omega
    have key : ∀ j, ∃ p : α × List Value, p.2.length = sz ∧ (j < len → R p.2 p.1 (Rows.uptoBulk (D j)) ∧ (∀ k, k < sz → W.cell? ⟨a.block, a.off + (j * sz + k), none⟩ = p.2[k]?) ∧ (j = 0 → ∃ b off, a = ⟨b, off, none⟩)) := by
      intro j
      by_cases hj : j < len
      · obtain ⟨cs', hc, ht⟩ := hi j (by omega)
        rw [hsz] at hc
        obtain ⟨_, hcl, hat⟩ := World.cells?_some hc
        obtain ⟨z, hR⟩ := hel ht
        obtain ⟨b, off, s⟩ := a
        refine ⟨(z, cs'), hcl, fun _ => ⟨hR, fun k hk => ?_, fun e => ?_⟩⟩
        · have q := hat k (by omega)
          rw [Go.Deep.add_add] at q
          have hkl : k < cs'.length := by omega
          rw [List.getElem?_eq_getElem hkl] at q ⊢
          obtain ⟨q, _⟩ := add_at q
          exact q
        · subst e
          have q := hat 0 (by omega)
          have hkl : 0 < cs'.length := by omega
          rw [Go.Deep.add_add, List.getElem?_eq_getElem hkl] at q
          simp only [Nat.zero_mul, Nat.add_zero] at q
          have := spot_none q
          subst this
          exact ⟨b, off, rfl⟩
      · exact ⟨(dflt, List.replicate sz undef), by simp, fun h => absurd h hj⟩
    obtain ⟨P, hP⟩ := Classical.skolem.1 key
    refine ⟨some a, len, cap', fun i => (P i).1, fun i => (P i).2, fun i => Rows.uptoBulk (D i), rfl, fun h => (by cases h), fun i => (hP i).1, ⟨hl, hmx, a.block, a.off, fun hn => ?_, fun q u hu => ?_⟩, fun i hi => ((hP i).2 hi).1, ?_⟩
    · obtain ⟨b, off, rfl⟩ := ((hP 0).2 hn).2.2 rfl
      rfl
    · have hq := (List.getElem?_eq_some_iff.1 hu).1
      rw [flat_len (fun i => (hP i).1), List.length_range] at hq
      have h1 : q / sz < len := Nat.div_lt_of_lt_mul (by rw [Nat.mul_comm]; exact hq)
      have h2 : q % sz < sz := Nat.mod_lt _ hpos
      have h3 : q / sz * sz + q % sz = q := by rw [Nat.mul_comm]; exact Nat.div_add_mod q sz
      have h4 := flat_at (ce := fun i => (P i).2) (fun i => (hP i).1) (List.range len) (q / sz) (by simpa using h1) (q % sz) h2
      rw [h3, List.getElem_range, hu] at h4
      have h5 := ((hP (q / sz)).2 h1).2.1 (q % sz) h2
      rw [h3] at h5
      rw [h5, ← h4]
    · rw [bulk_sum, hx]
      exact bulks.slice_elems _ _
theorem flat_map {α : Type} {n : Nat} {f : Nat → α} {cs : Nat → List Value} {ce : α → List Value} (h : ∀ i, i < n → cs i = ce (f i)) : (List.range n).flatMap cs = ((List.range n).map f).flatMap ce := by
  induction n with
  | zero => rfl
  | succ n ih =>
    rw [List.range_succ, List.flatMap_append, List.map_append, List.flatMap_append, ih fun i hi => h i (by omega)]
    simp [h n (by omega)]
/-- a list. -/
theorem open_sl {α : Type} (dflt : α) {t e : TypeId} {sz : Nat} (ht : Try.prog.underlying t = some (.slice e)) (hsz : Try.prog.cellsOf e = sz) (hpos : 0 < sz) (ce : α → List Value)
    (hel : ∀ {n : Nat} {cs : List Value} {x : DataW H × List MemPlace}, DataW.trod enc Try.prog W base spare held n e cs = some x → ∃ z, cs = ce z)
    {fuel : Nat} {c : Value} {x : DataW H × List MemPlace} (h : DataW.trod enc Try.prog W base spare held fuel t [c] = some x) : ∃ l, Sl ce W l c ∧ l.length + 1 ≤ Rows.uptoBulk x.1 := by
  obtain ⟨o, n, cap, f, cs, d, rfl, h0, hcl, hrd, hR, hsum⟩ := open_any dflt ht hsz hpos (fun cs z m => cs = ce z ∧ 1 ≤ m) (fun h => by obtain ⟨z, e⟩ := hel h; exact ⟨z, e, bulks.one_le _⟩) h
  rw [flat_map fun i hi => (hR i hi).1] at hrd
  have hl : ((List.range n).map f).length = n := by simp
  refine ⟨(List.range n).map f, ⟨o, cap, by rw [hl], by rw [hl]; exact h0, by rw [hl]; exact hrd⟩, ?_⟩
  rw [hl]
  have h1 : ((List.range n).map fun _ => 1).sum ≤ ((List.range n).map d).sum := sum_range_le fun i hi => (hR i hi).2
  have h2 := sum_ones n
  omega
/-- a list of lists. -/
theorem open_rows {α : Type} (dflt : α) (size : α → Nat) {t e : TypeId} (ht : Try.prog.underlying t = some (.slice e)) (hsz : Try.prog.cellsOf e = 1) (P : World → α → Value → Prop)
    (hel : ∀ {n : Nat} {c : Value} {x : DataW H × List MemPlace}, DataW.trod enc Try.prog W base spare held n e [c] = some x → ∃ z, P W z c ∧ size z + 1 ≤ Rows.uptoBulk x.1)
    (hlen : ∀ {n : Nat} {cs : List Value} {x : DataW H × List MemPlace}, DataW.trod enc Try.prog W base spare held n e cs = some x → cs.length = 1)
    {fuel : Nat} {c : Value} {x : DataW H × List MemPlace} (h : DataW.trod enc Try.prog W base spare held fuel t [c] = some x) : ∃ L, Rows P W L c ∧ (L.map size).sum + L.length + 1 ≤ Rows.uptoBulk x.1 := by
  obtain ⟨o, n, cap, f, cs, d, rfl, h0, hcl, hrd, hR, hsum⟩ := open_any dflt ht hsz (by decide) (fun cs z m => ∃ u, cs = [u] ∧ P W z u ∧ size z + 1 ≤ m) (fun {n cs x} h => by
    match cs, hlen h with
    | [u], _ =>
      obtain ⟨z, h1, h2⟩ := hel h
      exact ⟨z, u, rfl, h1, h2⟩) h
  have hl : ((List.range n).map f).length = n := by simp
  refine ⟨(List.range n).map f, ⟨o, cap, (List.range n).flatMap cs, by rw [hl], by rw [hl]; exact h0, by rw [hl]; exact hrd, by rw [hl, flat_len hcl, List.length_range, Nat.mul_one], fun i hi => ?_⟩, ?_⟩
  · rw [hl] at hi
    obtain ⟨u, h1, h2, _⟩ := hR i hi
    have h4 := flat_at (ce := cs) hcl (List.range n) i (by simpa using hi) 0 (by decide)
    rw [Nat.mul_one, Nat.add_zero, List.getElem_range, h1] at h4
    exact ⟨u, h4, by simpa using h2⟩
  · rw [hl, List.map_map]
    have h1 : ((List.range n).map fun i => size (f i) + 1).sum ≤ ((List.range n).map d).sum := sum_range_le fun i hi => by obtain ⟨u, _, _, h2⟩ := hR i hi; exact h2
    have h2 : ∀ m, ((List.range m).map fun i => size (f i) + 1).sum = ((List.range m).map (size ∘ f)).sum + m := by
      intro m
      induction m with
      | zero => rfl
      | succ m ih => rw [List.range_succ, List.map_append, List.map_append, List.sum_append, List.sum_append, ih]; simp; omega
    have h3 := h2 n
    omega
theorem len1 {t e : TypeId} (ht : Try.prog.underlying t = some (.slice e)) {n : Nat} {cs : List Value} {x : DataW H × List MemPlace} (h : DataW.trod enc Try.prog W base spare held n t cs = some x) : cs.length = 1 := by
  rcases open_slice ht h with ⟨hcs, _⟩ | ⟨_, _, _, _, _, _, _, hcs, _⟩ <;> rw [hcs] <;> rfl
theorem open_ports {fuel : Nat} {c : Value} {x : DataW H × List MemPlace} (h : DataW.trod enc Try.prog W base spare held fuel 22 [c] = some x) : ∃ L, Rows (Sl ceP) W L c ∧ (L.map List.length).sum + L.length + 1 ≤ Rows.uptoBulk x.1 :=
  open_rows [] List.length und22 cz58 (Sl ceP) (fun h => by
    exact open_sl ⟨0, 0, 0, 0, 0⟩ und58 cz73 (by decide) ceP (fun h => by obtain ⟨a, b, c, d, e, rfl⟩ := tr73 h; exact ⟨⟨a, b, c, d, e⟩, rfl⟩) h) (len1 und58) h
theorem open_tables {fuel : Nat} {c : Value} {x : DataW H × List MemPlace} (h : DataW.trod enc Try.prog W base spare held fuel 29 [c] = some x) : ∃ L, Rows (Rows (Sl ceR)) W L c ∧ (L.map fun t => (t.map List.length).sum + t.length).sum + L.length + 1 ≤ Rows.uptoBulk x.1 :=
  open_rows [] (fun t => (t.map List.length).sum + t.length) und29 cz43 (Rows (Sl ceR)) (fun h => by
    exact open_rows [] List.length und43 cz44 (Sl ceR) (fun h => by
      exact open_sl zeroR und44 cz53 (by decide) ceR (fun h => by obtain ⟨a, b, c, d, e, f, g, i, j, k, l, m, rfl⟩ := tr53 h; exact ⟨⟨a, b, c, d, e, f, g, i, j, k, l, m⟩, rfl⟩) h) (len1 und44) h) (len1 und43) h
/-- how much a configuration holds. -/
structure Sm (C : Cf) (B : Nat) : Prop where
  pt : (C.pt.map List.length).sum + C.pt.length ≤ B
  pe : C.pe.length ≤ B
  wy : C.wy.length ≤ B
  tb : (C.tb.map fun t => (t.map List.length).sum + t.length).sum + C.tb.length ≤ B
theorem open_cf {r : Reach} {b0 : Nat} {v : Value} {d : DataW H} {p : List MemPlace}
    (hv : Value.okWide Try.prog W r b0 31 v) (h : DataW.Trod enc Try.prog W base spare held 31 v d p) : ∃ (C : Cf) (vp ve vw vt : Value), v = .agg #[vp, .int .i64 C.ten, ve, vw, vt] ∧ RC W C vp ve vw vt ∧ Sm C (Rows.uptoBulk d) := by
  obtain ⟨f0, f1, f2, hs, o0, t0, o1, t1, o2, t2⟩ := fl31
  obtain ⟨cs, rfl, hsz⟩ := okWide_struct hs hv
  rw [cz31] at hsz
  obtain ⟨l⟩ := cs
  match l, hsz with
  | [c0, c1, c2, c3, c4], _ =>
    obtain ⟨fuel, hf⟩ := h
    obtain ⟨ys, k, _, hx, hl, hyl, hg⟩ := DataW.trod_struct hs hf
    have g0 := hg 0 f0 rfl
    have g1 := hg 1 f1 rfl
    have g2 := hg 2 f2 rfl
    rw [o0, t0, cz24] at g0
    rw [o1, t1, cz28] at g1
    rw [o2, t2, cz29] at g2
    match ys, hyl with
    | [y0, y1, y2], _ =>
      have g0' : DataW.trod enc Try.prog W base spare held k 24 [c0] = some y0 := by simpa [Value.cells] using g0
      have g1' : DataW.trod enc Try.prog W base spare held k 28 [c1, c2, c3] = some y1 := by simpa [Value.cells] using g1
      have g2' : DataW.trod enc Try.prog W base spare held k 29 [c4] = some y2 := by simpa [Value.cells] using g2
      obtain ⟨q0, hs2, r0, s0⟩ := fl24
      obtain ⟨z0, n2, hx2, _, h0⟩ := trod_struct1 hs2 g0'
      rw [r0, s0, cz22] at h0
      obtain ⟨pt, hpt, bpt⟩ := open_ports (c := c0) (x := z0) (by simpa using h0)
      obtain ⟨e0, e1, e2, hs3, o30, t30, o31, t31, o32, t32⟩ := fl28
      obtain ⟨zs, k3, _, hx3, _, hzl, hg3⟩ := DataW.trod_struct hs3 g1'
      have u0 := hg3 0 e0 rfl
      have u1 := hg3 1 e1 rfl
      have u2 := hg3 2 e2 rfl
      rw [o30, t30, cz3] at u0
      rw [o31, t31, cz25] at u1
      rw [o32, t32, cz26] at u2
      match zs, hzl with
      | [z1, z2, z3], _ =>
        obtain ⟨ten, et, _, _⟩ := DataW.trod_int (x := z1) un3 (by simpa using u0)
        obtain ⟨pe, hpe, bpe⟩ := open_sl (c := c2) (x := z2) (0, 0) und25 cz63 (by decide) ce2 (fun h => by obtain ⟨a, b, rfl⟩ := tr63 h; exact ⟨(a, b), rfl⟩) (by simpa using u1)
        obtain ⟨wy, hwy, bwy⟩ := open_sl (c := c3) (x := z3) (0, 0, 0) und26 cz65 (by decide) ce3 (fun h => by obtain ⟨a, b, c, rfl⟩ := tr65 h; exact ⟨(a, b, c), rfl⟩) (by simpa using u2)
        obtain ⟨tb, htb, btb⟩ := open_tables g2'
        simp at et
        subst et
        simp only [Prod.mk.injEq] at hx
        refine ⟨⟨pt, ten, pe, wy, tb⟩, c0, c2, c3, c4, rfl, ⟨hpt, hpe, hwy, htb⟩, ?_⟩
        rw [hx.1]
        simp only [List.map_cons, List.map_nil, Rows.uptoBulk, Rows.uptoBulkAll]
        rw [hx2, hx3]
        simp only [List.map_cons, List.map_nil, Rows.uptoBulk, Rows.uptoBulkAll]
        exact ⟨by simp only; omega, by simp only; omega, by simp only; omega, by simp only; omega⟩
theorem open_eds {r : Reach} {b0 : Nat} {v : Value} {d : DataW H} {p : List MemPlace} (hv : Value.okWide Try.prog W r b0 32 v) (h : DataW.Trod enc Try.prog W base spare held 32 v d p) : ∃ (o : Option Addr) (c : Nat) (l : List Ed), v = .slice o l.length c ∧ Rd W o l.length c (l.flatMap ceE) ∧ l.length ≤ Rows.uptoBulk d := by
  obtain ⟨fuel, hf⟩ := h
  obtain ⟨a, n, cap, rfl⟩ := okWide_slice und32 hv
  have hf' : DataW.trod enc Try.prog W base spare held fuel 32 [.slice a n cap] = some (d, p) := by simpa [Value.cells] using hf
  obtain ⟨l, ⟨o, c, e, _, hr⟩, hb⟩ := open_sl ⟨0, 0, 0, false, zeroR⟩ und32 cz55 (by decide) ceE (fun h => by obtain ⟨a0, a1, a2, a3, a4, a5, a6, a7, a8, a9, a10, a11, a12, a13, a14, a15, rfl⟩ := tr55 h; exact ⟨⟨a0, a1, a2, a3, ⟨a4, a5, a6, a7, a8, a9, a10, a11, a12, a13, a14, a15⟩⟩, rfl⟩) hf'
  exact ⟨o, c, l, e, hr, by simp only at hb; omega⟩
end
end Go.Proofs.Ytdmakcfgcgioeaa
