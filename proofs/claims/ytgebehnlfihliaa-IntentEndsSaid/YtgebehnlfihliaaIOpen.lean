/- Opening an intent: its rows of pairs, ways, ends, lines; a cube; an end; a header. -/
import Derived.Test.YtgebehnlfihliaaTOpenB
import Derived.Test.YtgebehnlfihliaaIn17
import Derived.OpenShut
namespace Go.Proofs.Ytgebehnlfihliaa
open Go.ChangeShapes Go.WideShapes Go.ChangeAt Go.RowKit Go.Joins Go.Deep
set_option maxRecDepth 100000
set_option linter.unusedVariables false
theorem fl61 : ∃ f0 f1 : Field, Try.prog.underlying 61 = some (.struct #[f0, f1]) ∧ f0.offset = 0 ∧ f0.type = 59 ∧ f1.offset = 1 ∧ f1.type = 59 := by
  have h : (Try.prog.underlying 61).map (fun d => match d with | .struct fs => fs.toList.map (fun f => (f.offset, f.type)) | _ => []) = some [(0, 59), (1, 59)] := by kernel_rfl
  obtain ⟨d, hd, hf⟩ := Option.map_eq_some_iff.1 h
  cases d with
  | struct fs =>
    simp only at hf
    obtain ⟨l⟩ := fs
    match l, hf with
    | [f0, f1], hf =>
      simp at hf
      exact ⟨f0, f1, hd, by simp [hf]⟩
    | [], hf => simp at hf
    | [_], hf => simp at hf
    | _ :: _ :: _ :: _, hf => simp at hf
  | _ => simp at hf
theorem fl73 : ∃ f0 f1 : Field, Try.prog.underlying 73 = some (.struct #[f0, f1]) ∧ f0.offset = 0 ∧ f0.type = 61 ∧ f1.offset = 2 ∧ f1.type = 61 := by
  have h : (Try.prog.underlying 73).map (fun d => match d with | .struct fs => fs.toList.map (fun f => (f.offset, f.type)) | _ => []) = some [(0, 61), (2, 61)] := by kernel_rfl
  obtain ⟨d, hd, hf⟩ := Option.map_eq_some_iff.1 h
  cases d with
  | struct fs =>
    simp only at hf
    obtain ⟨l⟩ := fs
    match l, hf with
    | [f0, f1], hf =>
      simp at hf
      exact ⟨f0, f1, hd, by simp [hf]⟩
    | [], hf => simp at hf
    | [_], hf => simp at hf
    | _ :: _ :: _ :: _, hf => simp at hf
  | _ => simp at hf
theorem fl68 : ∃ f0 f1 f2 : Field, Try.prog.underlying 68 = some (.struct #[f0, f1, f2]) ∧ f0.offset = 0 ∧ f0.type = 3 ∧ f1.offset = 1 ∧ f1.type = 66 ∧ f2.offset = 2 ∧ f2.type = 26 := by
  have h : (Try.prog.underlying 68).map (fun d => match d with | .struct fs => fs.toList.map (fun f => (f.offset, f.type)) | _ => []) = some [(0, 3), (1, 66), (2, 26)] := by kernel_rfl
  obtain ⟨d, hd, hf⟩ := Option.map_eq_some_iff.1 h
  cases d with
  | struct fs =>
    simp only at hf
    obtain ⟨l⟩ := fs
    match l, hf with
    | [f0, f1, f2], hf =>
      simp at hf
      exact ⟨f0, f1, f2, hd, by simp [hf]⟩
    | [], hf => simp at hf
    | [_], hf => simp at hf
    | [_, _], hf => simp at hf
    | _ :: _ :: _ :: _ :: _, hf => simp at hf
  | _ => simp at hf
theorem fl75 : ∃ f0 f1 : Field, Try.prog.underlying 75 = some (.struct #[f0, f1]) ∧ f0.offset = 0 ∧ f0.type = 73 ∧ f1.offset = 4 ∧ f1.type = 4 := by
  have h : (Try.prog.underlying 75).map (fun d => match d with | .struct fs => fs.toList.map (fun f => (f.offset, f.type)) | _ => []) = some [(0, 73), (4, 4)] := by kernel_rfl
  obtain ⟨d, hd, hf⟩ := Option.map_eq_some_iff.1 h
  cases d with
  | struct fs =>
    simp only at hf
    obtain ⟨l⟩ := fs
    match l, hf with
    | [f0, f1], hf =>
      simp at hf
      exact ⟨f0, f1, hd, by simp [hf]⟩
    | [], hf => simp at hf
    | [_], hf => simp at hf
    | _ :: _ :: _ :: _, hf => simp at hf
  | _ => simp at hf
theorem fl92 : ∃ f0 f1 f2 : Field, Try.prog.underlying 92 = some (.struct #[f0, f1, f2]) ∧ f0.offset = 0 ∧ f0.type = 3 ∧ f1.offset = 1 ∧ f1.type = 3 ∧ f2.offset = 2 ∧ f2.type = 3 := by
  have h : (Try.prog.underlying 92).map (fun d => match d with | .struct fs => fs.toList.map (fun f => (f.offset, f.type)) | _ => []) = some [(0, 3), (1, 3), (2, 3)] := by kernel_rfl
  obtain ⟨d, hd, hf⟩ := Option.map_eq_some_iff.1 h
  cases d with
  | struct fs =>
    simp only at hf
    obtain ⟨l⟩ := fs
    match l, hf with
    | [f0, f1, f2], hf =>
      simp at hf
      exact ⟨f0, f1, f2, hd, by simp [hf]⟩
    | [], hf => simp at hf
    | [_], hf => simp at hf
    | [_, _], hf => simp at hf
    | _ :: _ :: _ :: _ :: _, hf => simp at hf
  | _ => simp at hf
theorem fl52 : ∃ f0 f1 f2 : Field, Try.prog.underlying 52 = some (.struct #[f0, f1, f2]) ∧ f0.offset = 0 ∧ f0.type = 3 ∧ f1.offset = 1 ∧ f1.type = 49 ∧ f2.offset = 2 ∧ f2.type = 50 := by
  have h : (Try.prog.underlying 52).map (fun d => match d with | .struct fs => fs.toList.map (fun f => (f.offset, f.type)) | _ => []) = some [(0, 3), (1, 49), (2, 50)] := by kernel_rfl
  obtain ⟨d, hd, hf⟩ := Option.map_eq_some_iff.1 h
  cases d with
  | struct fs =>
    simp only at hf
    obtain ⟨l⟩ := fs
    match l, hf with
    | [f0, f1, f2], hf =>
      simp at hf
      exact ⟨f0, f1, f2, hd, by simp [hf]⟩
    | [], hf => simp at hf
    | [_], hf => simp at hf
    | [_, _], hf => simp at hf
    | _ :: _ :: _ :: _ :: _, hf => simp at hf
  | _ => simp at hf
theorem fl56 : ∃ f0 f1 f2 f3 : Field, Try.prog.underlying 56 = some (.struct #[f0, f1, f2, f3]) ∧ f0.offset = 0 ∧ f0.type = 24 ∧ f1.offset = 1 ∧ f1.type = 52 ∧ f2.offset = 4 ∧ f2.type = 53 ∧ f3.offset = 5 ∧ f3.type = 54 := by
  have h : (Try.prog.underlying 56).map (fun d => match d with | .struct fs => fs.toList.map (fun f => (f.offset, f.type)) | _ => []) = some [(0, 24), (1, 52), (4, 53), (5, 54)] := by kernel_rfl
  obtain ⟨d, hd, hf⟩ := Option.map_eq_some_iff.1 h
  cases d with
  | struct fs =>
    simp only at hf
    obtain ⟨l⟩ := fs
    match l, hf with
    | [f0, f1, f2, f3], hf =>
      simp at hf
      exact ⟨f0, f1, f2, f3, hd, by simp [hf]⟩
    | [], hf => simp at hf
    | [_], hf => simp at hf
    | [_, _], hf => simp at hf
    | [_, _, _], hf => simp at hf
    | _ :: _ :: _ :: _ :: _ :: _, hf => simp at hf
  | _ => simp at hf
theorem fl26 : ∃ f0 f1 : Field, Try.prog.underlying 26 = some (.struct #[f0, f1]) ∧ f0.offset = 0 ∧ f0.type = 3 ∧ f1.offset = 1 ∧ f1.type = 3 := by
  have h : (Try.prog.underlying 26).map (fun d => match d with | .struct fs => fs.toList.map (fun f => (f.offset, f.type)) | _ => []) = some [(0, 3), (1, 3)] := by kernel_rfl
  obtain ⟨d, hd, hf⟩ := Option.map_eq_some_iff.1 h
  cases d with
  | struct fs =>
    simp only at hf
    obtain ⟨l⟩ := fs
    match l, hf with
    | [f0, f1], hf =>
      simp at hf
      exact ⟨f0, f1, hd, by simp [hf]⟩
    | [], hf => simp at hf
    | [_], hf => simp at hf
    | _ :: _ :: _ :: _, hf => simp at hf
  | _ => simp at hf
theorem cz59 : Try.prog.cellsOf 59 = 1 := by kernel_rfl
theorem cz61 : Try.prog.cellsOf 61 = 2 := by kernel_rfl
theorem cz73 : Try.prog.cellsOf 73 = 4 := by kernel_rfl
theorem cz68 : Try.prog.cellsOf 68 = 4 := by kernel_rfl
theorem cz75 : Try.prog.cellsOf 75 = 5 := by kernel_rfl
theorem cz92 : Try.prog.cellsOf 92 = 3 := by kernel_rfl
theorem cz52 : Try.prog.cellsOf 52 = 3 := by kernel_rfl
theorem cz56 : Try.prog.cellsOf 56 = 6 := by kernel_rfl
theorem cz66 : Try.prog.cellsOf 66 = 1 := by kernel_rfl
theorem cz4 : Try.prog.cellsOf 4 = 1 := by kernel_rfl
theorem cz70 : Try.prog.cellsOf 70 = 2 := by kernel_rfl
theorem cz49 : Try.prog.cellsOf 49 = 1 := by kernel_rfl
theorem cz50 : Try.prog.cellsOf 50 = 1 := by kernel_rfl
theorem cz53 : Try.prog.cellsOf 53 = 1 := by kernel_rfl
theorem cz54 : Try.prog.cellsOf 54 = 1 := by kernel_rfl
theorem un59 : Try.prog.underlying 59 = some (.int .u64) := by kernel_rfl
theorem un66 : Try.prog.underlying 66 = some (.int .u32) := by kernel_rfl
theorem un4 : Try.prog.underlying 4 = some (.bool) := by kernel_rfl
theorem un49 : Try.prog.underlying 49 = some (.slice 70) := by kernel_rfl
theorem un50 : Try.prog.underlying 50 = some (.slice 92) := by kernel_rfl
theorem un53 : Try.prog.underlying 53 = some (.slice 68) := by kernel_rfl
theorem un54 : Try.prog.underlying 54 = some (.slice 75) := by kernel_rfl
theorem un70 : Try.prog.underlying 70 = some (.array 2 3) := by kernel_rfl
theorem u64_bv2 {a : Int} (h : (Lit.int .u64 a).wf = true) : ∃ x : BitVec 64, a = (x.toNat : Int) := by
  simp [Lit.wf, IntKind.min, IntKind.max, IntKind.signed, IntKind.bits] at h
  exact ⟨BitVec.ofNat 64 a.toNat, by rw [BitVec.toNat_ofNat, Nat.mod_eq_of_lt (by omega)]; omega⟩
section
variable {H : Type} {enc : TypeId × Value → H} {W : World} {base : Nat} {spare : Nat → Bool} {held : Bool}
theorem tr61 {n : Nat} {cs : List Value} {x : DataW H × List MemPlace} (h : DataW.trod enc Try.prog W base spare held n 61 cs = some x) :
    ∃ X : BitVec 128, cs = [.int .u64 ((Plain.hiOf X).toNat : Int), .int .u64 ((Plain.loOf X).toNat : Int)] := by
  obtain ⟨f0, f1, hs, o0, t0, o1, t1⟩ := fl61
  obtain ⟨y0, y1, n, _, hl, h0, h1⟩ := trod_struct2 hs h
  rw [o0, t0, cz59] at h0
  rw [o1, t1, cz59] at h1
  rw [cz61] at hl
  match cs, hl with
  | [c0, c1], _ =>
    obtain ⟨a, e0, _, w0⟩ := DataW.trod_int un59 (by simpa using h0)
    obtain ⟨b, e1, _, w1⟩ := DataW.trod_int un59 (by simpa using h1)
    simp at e0 e1
    subst e0 e1
    obtain ⟨x, rfl⟩ := u64_bv2 w0
    obtain ⟨y, rfl⟩ := u64_bv2 w1
    exact ⟨Plain.mk x y, by rw [Plain.hiOf_mk, Plain.loOf_mk]⟩
theorem tr26 {n : Nat} {cs : List Value} {x : DataW H × List MemPlace} (h : DataW.trod enc Try.prog W base spare held n 26 cs = some x) :
    ∃ a b : Int, cs = [.int .i64 a, .int .i64 b] := by
  obtain ⟨f0, f1, hs, o0, t0, o1, t1⟩ := fl26
  obtain ⟨y0, y1, n, _, hl, h0, h1⟩ := trod_struct2 hs h
  rw [o0, t0, size3] at h0
  rw [o1, t1, size3] at h1
  rw [cells26] at hl
  match cs, hl with
  | [c0, c1], _ =>
    obtain ⟨a, e0, _, w0⟩ := DataW.trod_int int3 (by simpa using h0)
    obtain ⟨b, e1, _, w1⟩ := DataW.trod_int int3 (by simpa using h1)
    simp at e0 e1
    subst e0 e1
    exact ⟨a, b, rfl⟩
theorem tr73 {n : Nat} {cs : List Value} {x : DataW H × List MemPlace} (h : DataW.trod enc Try.prog W base spare held n 73 cs = some x) :
    ∃ V C : BitVec 128, cs = [.int .u64 ((Plain.hiOf V).toNat : Int), .int .u64 ((Plain.loOf V).toNat : Int), .int .u64 ((Plain.hiOf C).toNat : Int), .int .u64 ((Plain.loOf C).toNat : Int)] := by
  obtain ⟨f0, f1, hs, o0, t0, o1, t1⟩ := fl73
  obtain ⟨y0, y1, n, _, hl, h0, h1⟩ := trod_struct2 hs h
  rw [o0, t0, cz61] at h0
  rw [o1, t1, cz61] at h1
  rw [cz73] at hl
  match cs, hl with
  | [c0, c1, c2, c3], _ =>
    obtain ⟨V, e0⟩ := tr61 (cs := [c0, c1]) (by simpa using h0)
    obtain ⟨C, e1⟩ := tr61 (cs := [c2, c3]) (by simpa using h1)
    simp at e0 e1
    obtain ⟨rfl, rfl⟩ := e0
    obtain ⟨rfl, rfl⟩ := e1
    exact ⟨V, C, rfl⟩
def evE (z : En) : List Value := [.int .i64 z.ten, .int .u32 z.addr, .int .i64 z.sw, .int .i64 z.po]
def evA (z : Ac) : List Value := [.int .u64 ((Plain.hiOf z.V).toNat : Int), .int .u64 ((Plain.loOf z.V).toNat : Int), .int .u64 ((Plain.hiOf z.C).toNat : Int), .int .u64 ((Plain.loOf z.C).toNat : Int), .bool z.per]
def evP (z : Int × Int) : List Value := [.int .i64 z.1, .int .i64 z.2]
def evW (z : Int × Int × Int) : List Value := [.int .i64 z.1, .int .i64 z.2.1, .int .i64 z.2.2]
theorem tr68 {n : Nat} {cs : List Value} {x : DataW H × List MemPlace} (h : DataW.trod enc Try.prog W base spare held n 68 cs = some x) :
    ∃ z : En, cs = evE z ∧ (Lit.int .u32 z.addr).wf = true := by
  obtain ⟨f0, f1, f2, hs, o0, t0, o1, t1, o2, t2⟩ := fl68
  obtain ⟨ys, k, _, _, hl, hyl, hf⟩ := DataW.trod_struct hs h
  have g0 := hf 0 f0 rfl
  have g1 := hf 1 f1 rfl
  have g2 := hf 2 f2 rfl
  rw [o0, t0, size3] at g0
  rw [o1, t1, cz66] at g1
  rw [o2, t2, cells26] at g2
  rw [cz68] at hl
  match cs, hl with
  | [c0, c1, c2, c3], _ =>
    match ys, hyl with
    | [y0, y1, y2], _ =>
      obtain ⟨a, e0, _, _⟩ := DataW.trod_int int3 (by simpa using g0)
      obtain ⟨b, e1, _, w1⟩ := DataW.trod_int un66 (by simpa using g1)
      obtain ⟨c, d, e2⟩ := tr26 (cs := [c2, c3]) (x := y2) (by simpa using g2)
      simp at e0 e1 e2
      subst e0 e1
      obtain ⟨rfl, rfl⟩ := e2
      exact ⟨⟨a, b, c, d⟩, rfl, w1⟩
theorem tr75 {n : Nat} {cs : List Value} {x : DataW H × List MemPlace} (h : DataW.trod enc Try.prog W base spare held n 75 cs = some x) :
    ∃ z : Ac, cs = evA z ∧ True := by
  obtain ⟨f0, f1, hs, o0, t0, o1, t1⟩ := fl75
  obtain ⟨y0, y1, n, _, hl, h0, h1⟩ := trod_struct2 hs h
  rw [o0, t0, cz73] at h0
  rw [o1, t1, cz4] at h1
  rw [cz75] at hl
  match cs, hl with
  | [c0, c1, c2, c3, c4], _ =>
    obtain ⟨V, C, e0⟩ := tr73 (cs := [c0, c1, c2, c3]) (by simpa using h0)
    obtain ⟨b, e1, _⟩ := DataW.trod_bool un4 (by simpa using h1)
    simp at e0 e1
    obtain ⟨rfl, rfl, rfl, rfl⟩ := e0
    subst e1
    exact ⟨⟨V, C, b⟩, rfl, trivial⟩
theorem tr92 {n : Nat} {cs : List Value} {x : DataW H × List MemPlace} (h : DataW.trod enc Try.prog W base spare held n 92 cs = some x) :
    ∃ z : Int × Int × Int, cs = evW z ∧ (Lit.int .i64 z.1).wf = true ∧ (Lit.int .i64 z.2.1).wf = true := by
  obtain ⟨f0, f1, f2, hs, o0, t0, o1, t1, o2, t2⟩ := fl92
  obtain ⟨ys, k, _, _, hl, hyl, hf⟩ := DataW.trod_struct hs h
  have g0 := hf 0 f0 rfl
  have g1 := hf 1 f1 rfl
  have g2 := hf 2 f2 rfl
  rw [o0, t0, size3] at g0
  rw [o1, t1, size3] at g1
  rw [o2, t2, size3] at g2
  rw [cz92] at hl
  match cs, hl with
  | [c0, c1, c2], _ =>
    match ys, hyl with
    | [y0, y1, y2], _ =>
      obtain ⟨a, e0, _, w0⟩ := DataW.trod_int int3 (by simpa using g0)
      obtain ⟨b, e1, _, w1⟩ := DataW.trod_int int3 (by simpa using g1)
      obtain ⟨c, e2, _, _⟩ := DataW.trod_int int3 (by simpa using g2)
      simp at e0 e1 e2
      subst e0 e1 e2
      exact ⟨(a, b, c), rfl, w0, w1⟩
theorem tr70 {n : Nat} {cs : List Value} {x : DataW H × List MemPlace} (h : DataW.trod enc Try.prog W base spare held n 70 cs = some x) :
    ∃ z : Int × Int, cs = evP z ∧ True := by
  obtain ⟨ys, k, _, _, hl, hyl, hf⟩ := DataW.trod_array un70 h
  have g0 := hf 0 (by omega)
  have g1 := hf 1 (by omega)
  rw [size3] at g0 g1
  rw [cz70] at hl
  match cs, hl with
  | [c0, c1], _ =>
    match ys, hyl with
    | [y0, y1], _ =>
      obtain ⟨a, e0, _, w0⟩ := DataW.trod_int (x := y0) int3 (by simpa using g0)
      obtain ⟨b, e1, _, w1⟩ := DataW.trod_int (x := y1) int3 (by simpa using g1)
      simp at e0 e1
      subst e0 e1
      exact ⟨(a, b), rfl, trivial⟩
/-- a row. -/
theorem open_rw {α : Type} (dflt : α) {t e : TypeId} {sz : Nat} (ht : Try.prog.underlying t = some (.slice e)) (hsz : Try.prog.cellsOf e = sz) (hpos : 0 < sz) (cvl : α → List Value) (good : α → Prop)
    (hel : ∀ {n : Nat} {cs : List Value} {x : DataW H × List MemPlace}, DataW.trod enc Try.prog W base spare held n e cs = some x → ∃ z, cs = cvl z ∧ good z)
    {fuel : Nat} {c : Value} {x : DataW H × List MemPlace} (h : DataW.trod enc Try.prog W base spare held fuel t [c] = some x) :
    ∃ (o : Option Addr) (n cap : Nat) (f : Nat → α), c = .slice o n cap ∧ n + 1 ≤ Rows.uptoBulk x.1 ∧ (∀ i, i < n → good (f i)) ∧ Rw W o n cap sz (fun i k => ((cvl (f i))[k]?).getD undef) := by
  rcases open_slice ht h with ⟨hcs, hxn⟩ | ⟨a, len, cap', m', n', D, Pl, hcs, hb, hl, hmx, hmm, hx, hi⟩
  · simp at hcs
    subst hcs
    exact ⟨none, 0, 0, fun _ => dflt, rfl, by rw [hxn]; simp [Rows.uptoBulk], fun i hi => by omega, Nat.le_refl _, Nat.zero_le _, 0, 0, fun h => by omega, fun i k hi => by omega⟩
  · simp at hcs
    subst hcs
    have hlm : len ≤ m' := by rw [hmm]; split <;> omega
    have key : ∀ j, ∃ p : α, j < len → good p ∧ (∀ k, k < sz → W.cell? ⟨a.block, a.off + j * sz + k, none⟩ = some (((cvl p)[k]?).getD undef)) ∧ (j = 0 → ∃ b off, a = ⟨b, off, none⟩) := by
      intro j
      by_cases hj : j < len
      · obtain ⟨cs', hc, ht⟩ := hi j (by omega)
        rw [hsz] at hc
        obtain ⟨_, hcl, hat⟩ := World.cells?_some hc
        obtain ⟨z, rfl, hg⟩ := hel ht
        obtain ⟨b, off, s⟩ := a
        refine ⟨z, fun _ => ⟨hg, fun k hk => ?_, fun e => ?_⟩⟩
        · have q := hat k (by omega)
          rw [Go.Deep.add_add, List.getElem?_eq_getElem (by omega)] at q
          obtain ⟨q, _⟩ := add_at q
          rw [Nat.add_assoc, q, List.getElem?_eq_getElem (by omega)]
          rfl
        · subst e
          have q := hat 0 (by omega)
          rw [Go.Deep.add_add, List.getElem?_eq_getElem (by omega)] at q
          simp only [Nat.zero_mul, Nat.add_zero] at q
          have := spot_none q
          subst this
          exact ⟨b, off, rfl⟩
      · exact ⟨dflt, fun h => absurd h hj⟩
    obtain ⟨P, hP⟩ := Classical.skolem.1 key
    refine ⟨some a, len, cap', P, rfl, by rw [hx]; have := bulks.slice_le ((List.range len).map D) ((List.range (m' - len)).map fun j => D (len + j)); rw [List.length_map, List.length_range] at this; simp only; omega, fun i hi => (hP i hi).1, hl, hmx, a.block, a.off, fun hn => ?_, fun i k hi hk => (hP i hi).2.1 k hk⟩
    obtain ⟨b, off, rfl⟩ := (hP 0 hn).2.2 rfl
    rfl
theorem Rw.eq {w : World} {o : Option Addr} {n cap sz : Nat} {cv cv' : Nat → Nat → Value} (h : Rw w o n cap sz cv) (he : ∀ i k, k < sz → cv i k = cv' i k) : Rw w o n cap sz cv' := by
  obtain ⟨h1, h2, b, off, h3, h4⟩ := h
  exact ⟨h1, h2, b, off, h3, fun i k hi hk => by rw [h4 i k hi hk, he i k hk]⟩
theorem open_topo_c {fuel : Nat} {c : Value} {x : DataW H × List MemPlace} (hf : DataW.trod enc Try.prog W base spare held fuel 24 [c] = some x) : ∃ (o : Option Addr) (cap : Nat) (T : Tp), c = .slice o T.n cap ∧ TA W o cap T := by
  obtain ⟨f0, hs, o0, t0⟩ := fields24
  obtain ⟨y0, n, hx, _, h0⟩ := trod_struct1 hs hf
  rw [o0, t0, cells22] at h0
  have h0' : DataW.trod enc Try.prog W base spare held n 22 [c] = some y0 := by simpa using h0
  rcases open_slice1 u22 cells33 h0' with ⟨hcs, _⟩ | ⟨a, len, cap, m, n2, V, D, Pl, hcs, hb, hl, hmx, hmm, hx2, hi⟩
  · simp at hcs
    subst hcs
    exact ⟨none, 0, ⟨0, fun _ => 0, fun _ _ => ⟨0, 0, 0, 0, 0⟩⟩, rfl, ⟨⟨0, 0, fun _ => none, fun _ => 0, fun _ => 0, fun _ => 0, fun h => by simp at h, Nat.le_refl _, Nat.zero_le _, fun i hi => by simp at hi, fun i j hi => by simp at hi⟩⟩⟩
  · simp at hcs
    subst hcs
    have hlm : len ≤ m := by rw [hmm]; split <;> omega
    have key : ∀ i, ∃ z : Option Addr × Nat × Nat × Nat × Nat × (Nat → Pt), i < len → W.cell? ⟨a.block, a.off + i, none⟩ = some (.slice z.1 z.2.1 z.2.2.1) ∧ z.2.1 ≤ z.2.2.1 ∧ z.2.2.1 ≤ maxLen ∧ (0 < z.2.1 → z.1 = some ⟨z.2.2.2.1, z.2.2.2.2.1, none⟩) ∧
        (∀ j, j < z.2.1 → W.cell? ⟨z.2.2.2.1, z.2.2.2.2.1 + j * 5, none⟩ = some (.int .i64 (z.2.2.2.2.2 j).kind) ∧ W.cell? ⟨z.2.2.2.1, z.2.2.2.2.1 + j * 5 + 1, none⟩ = some (.int .i64 (z.2.2.2.2.2 j).ten) ∧ W.cell? ⟨z.2.2.2.1, z.2.2.2.2.1 + j * 5 + 2, none⟩ = some (.int .i64 (z.2.2.2.2.2 j).peer) ∧
          W.cell? ⟨z.2.2.2.1, z.2.2.2.2.1 + j * 5 + 3, none⟩ = some (.int .i64 (z.2.2.2.2.2 j).at_) ∧ W.cell? ⟨z.2.2.2.1, z.2.2.2.2.1 + j * 5 + 4, none⟩ = some (.int .i64 (z.2.2.2.2.2 j).cost)) ∧ (i = 0 → ∃ b off, a = ⟨b, off, none⟩) := by
      intro i
      by_cases hil : i < len
      · obtain ⟨hc, ht⟩ := hi i (by omega)
        obtain ⟨r, nn, cp, rb, rf, P, e, q1, q2, q3, q4⟩ := open_row ht
        rw [e] at hc
        obtain ⟨b, off, s⟩ := a
        have hsp : i = 0 → ∃ b' off', (⟨b, off, s⟩ : Addr) = ⟨b', off', none⟩ := fun e => by subst e; have := spot_none hc; subst this; exact ⟨b, off, rfl⟩
        obtain ⟨hc, _⟩ := add_at hc
        exact ⟨(r, nn, cp, rb, rf, P), fun _ => ⟨hc, q1, q2, q3, q4, hsp⟩⟩
      · exact ⟨(none, 0, 0, 0, 0, fun _ => ⟨0, 0, 0, 0, 0⟩), fun h => absurd h hil⟩
    obtain ⟨Z, hZ⟩ := Classical.skolem.1 key
    refine ⟨some a, cap, ⟨len, fun i => (Z i).2.1, fun i j => (Z i).2.2.2.2.2 j⟩, rfl, ⟨⟨a.block, a.off, fun i => (Z i).1, fun i => (Z i).2.2.1, fun i => (Z i).2.2.2.1, fun i => (Z i).2.2.2.2.1, fun h => ?_, hl, hmx, fun i hi => ?_, fun i j hi hj => ?_⟩⟩⟩
    · obtain ⟨b, off, rfl⟩ := (hZ 0 h).2.2.2.2.2 rfl
      rfl
    · exact ⟨(hZ i hi).1, (hZ i hi).2.1, (hZ i hi).2.2.1, (hZ i hi).2.2.2.1⟩
    · exact (hZ i hi).2.2.2.2.1 j hj

theorem open_intent {r : Reach} {b0 : Nat} {v : Value} {d : DataW H} {p : List MemPlace}
    (hv : Value.okWide Try.prog W r b0 56 v) (h : DataW.Trod enc Try.prog W base spare held 56 v d p) : ∃ (r : Ir) (I : In), v = .agg (I.cells r) ∧ NA W r I ∧ WfI I ∧ I.ne + I.na ≤ Rows.uptoBulk d ∧ (Lit.int .i64 I.ten).wf = true := by
  obtain ⟨f0, f1, f2, f3, hs, o0, t0, o1, t1, o2, t2, o3, t3⟩ := fl56
  obtain ⟨cs, rfl, hsz⟩ := okWide_struct hs hv
  rw [cz56] at hsz
  obtain ⟨l⟩ := cs
  match l, hsz with
  | [c0, c1, c2, c3, c4, c5], _ =>
    obtain ⟨fuel, hf⟩ := h
    obtain ⟨ys, k, _, hx, hl, hyl, hg⟩ := DataW.trod_struct hs hf
    have g0 := hg 0 f0 rfl
    have g1 := hg 1 f1 rfl
    have g2 := hg 2 f2 rfl
    have g3 := hg 3 f3 rfl
    rw [o0, t0, cells24] at g0
    rw [o1, t1, cz52] at g1
    rw [o2, t2, cz53] at g2
    rw [o3, t3, cz54] at g3
    match ys, hyl with
    | [y0, y1, y2, y3], _ =>
      obtain ⟨o, cap, T, rfl, ta⟩ := open_topo_c (c := c0) (x := y0) (by simpa [Value.cells] using g0)
      have g1' : DataW.trod enc Try.prog W base spare held k 52 [c1, c2, c3] = some y1 := by simpa [Value.cells] using g1
      obtain ⟨e0, e1, e2, hs5, o50, t50, o51, t51, o52, t52⟩ := fl52
      obtain ⟨zs, k5, _, _, _, hzl, hg5⟩ := DataW.trod_struct hs5 g1'
      have q0 := hg5 0 e0 rfl
      have q1 := hg5 1 e1 rfl
      have q2 := hg5 2 e2 rfl
      rw [o50, t50, size3] at q0
      rw [o51, t51, cz49] at q1
      rw [o52, t52, cz50] at q2
      match zs, hzl with
      | [z0, z1, z2], _ =>
        obtain ⟨ten, et, _, wt⟩ := DataW.trod_int (x := z0) int3 (by simpa using q0)
        obtain ⟨op, np, cp, pe, rfl, _, _, rp⟩ := open_rw (c := c2) (x := z1) (0, 0) un49 cz70 (by decide) evP (fun _ => True) tr70 (by simpa using q1)
        obtain ⟨ow, nw, cw, wy, rfl, _, gw, rw_⟩ := open_rw (c := c3) (x := z2) (0, 0, 0) un50 cz92 (by decide) evW (fun z => (Lit.int .i64 z.1).wf = true ∧ (Lit.int .i64 z.2.1).wf = true) tr92 (by simpa using q2)
        obtain ⟨oe, ne, ce, en, rfl, be, ge, re⟩ := open_rw (c := c4) (x := y2) ⟨0, 0, 0, 0⟩ un53 cz68 (by decide) evE (fun z => (Lit.int .u32 z.addr).wf = true) tr68 (by simpa [Value.cells] using g2)
        obtain ⟨oa, na, ca, ac, rfl, ba, _, ra⟩ := open_rw (c := c5) (x := y3) ⟨0, 0, false⟩ un54 cz75 (by decide) evA (fun _ => True) tr75 (by simpa [Value.cells] using g3)
        simp at et
        subst et
        refine ⟨⟨o, cap, op, cp, ow, cw, oe, ce, oa, ca⟩, ⟨T, ten, np, pe, nw, wy, ne, en, na, ac⟩, rfl, ⟨ta, rp.eq fun i k hk => ?_, rw_.eq fun i k hk => ?_, re.eq fun i k hk => ?_, ra.eq fun i k hk => ?_⟩, ⟨fun i hi => ge i hi, fun i hi => gw i hi⟩, ?_, wt⟩
        · have : k = 0 ∨ k = 1 := by omega
          rcases this with rfl | rfl <;> rfl
        · have : k = 0 ∨ k = 1 ∨ k = 2 := by omega
          rcases this with rfl | rfl | rfl <;> rfl
        · have : k = 0 ∨ k = 1 ∨ k = 2 ∨ k = 3 := by omega
          rcases this with rfl | rfl | rfl | rfl <;> rfl
        · have : k = 0 ∨ k = 1 ∨ k = 2 ∨ k = 3 ∨ k = 4 := by omega
          rcases this with rfl | rfl | rfl | rfl | rfl <;> rfl
        · simp only [Prod.mk.injEq] at hx
          rw [hx.1]
          simp only [List.map_cons, List.map_nil, Rows.uptoBulk, Rows.uptoBulkAll]
          show ne + na ≤ _
          omega
theorem open_cube {r : Reach} {b0 : Nat} {v : Value} {d : DataW H} {p : List MemPlace}
    (hv : Value.okWide Try.prog W r b0 73 v) (h : DataW.Trod enc Try.prog W base spare held 73 v d p) : ∃ V C : BitVec 128, v = .agg #[.int .u64 ((Plain.hiOf V).toNat : Int), .int .u64 ((Plain.loOf V).toNat : Int), .int .u64 ((Plain.hiOf C).toNat : Int), .int .u64 ((Plain.loOf C).toNat : Int)] := by
  obtain ⟨f0, f1, hs, _⟩ := fl73
  obtain ⟨cs, rfl, hsz⟩ := okWide_struct hs hv
  obtain ⟨fuel, hf⟩ := h
  obtain ⟨V, C, e⟩ := tr73 hf
  exact ⟨V, C, by obtain ⟨l⟩ := cs; simp [Value.cells] at e; rw [e]⟩
theorem open_end {r : Reach} {b0 : Nat} {v : Value} {d : DataW H} {p : List MemPlace}
    (hv : Value.okWide Try.prog W r b0 68 v) (h : DataW.Trod enc Try.prog W base spare held 68 v d p) : ∃ z : En, v = .agg #[.int .i64 z.ten, .int .u32 z.addr, .int .i64 z.sw, .int .i64 z.po] ∧ (Lit.int .u32 z.addr).wf = true := by
  obtain ⟨f0, f1, f2, hs, _⟩ := fl68
  obtain ⟨cs, rfl, hsz⟩ := okWide_struct hs hv
  obtain ⟨fuel, hf⟩ := h
  obtain ⟨z, e, hz⟩ := tr68 hf
  exact ⟨z, by obtain ⟨l⟩ := cs; simp [Value.cells, evE] at e; rw [e], hz⟩
theorem open_hd {r : Reach} {b0 : Nat} {v : Value} {d : DataW H} {p : List MemPlace}
    (hv : Value.okWide Try.prog W r b0 61 v) (h : DataW.Trod enc Try.prog W base spare held 61 v d p) : ∃ X : BitVec 128, v = .agg #[.int .u64 ((Plain.hiOf X).toNat : Int), .int .u64 ((Plain.loOf X).toNat : Int)] := by
  obtain ⟨f0, f1, hs, _⟩ := fl61
  obtain ⟨cs, rfl, hsz⟩ := okWide_struct hs hv
  obtain ⟨fuel, hf⟩ := h
  obtain ⟨X, e⟩ := tr61 hf
  exact ⟨X, by obtain ⟨l⟩ := cs; simp [Value.cells] at e; rw [e]⟩
end
end Go.Proofs.Ytgebehnlfihliaa
