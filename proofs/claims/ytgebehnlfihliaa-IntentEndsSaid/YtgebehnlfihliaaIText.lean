/- Intent: the document's text of a cube, and whether a header is in it. -/
import Derived.Test.YtgebehnlfihliaaIMulti3
import Derived.Test.YtgebehnlfihliaaIn4
import Derived.Deep.OwnRows
import Derived.Laws.IdiomStrings
import Derived.Shelf.SlicesQ.Load
namespace Go.Proofs.Ytgebehnlfihliaa.Hd
open Go.RowKit Go.Sort
set_option linter.unusedSimpArgs false
set_option linter.unusedVariables false
attribute [local go_sem ↓] execOp_ld33 execOp_st33
section
variable {P : Program} {Q : Exit → Act → World → Prop} {ops : List Oper} {ks : List Mk} {w0 : World} {a0 : Act}
/-- the address of a field of a variable that was there -/
theorem obl_field {dst : Option Tmp} {τ : TypeId} {i n k off : Nat} {ty : TypeId} {pos : String} {after : Array Edge} {guard : Option (Nat × Bool)} (hd : dstB ops i = false) (hp : a0.tmps[i]? = some (.pointer (some ⟨n, 0, none⟩)))
    (hf : ∀ W, (Instr.fieldAt τ (.pointer (some ⟨n, 0, none⟩)) k).run P W = .ok (.pointer (some ⟨n, off, none⟩)) W) :
    Obl P Q ops ks w0 a0 { dst, op := .fieldAddr τ (.tmp i) k, type := ty, pos, after, guard } (.q (.pointer (some ⟨n, off, none⟩))) := by
  intro a W hb h0 _ X hX
  have hr : (execOp a.eval { dst, op := .fieldAddr τ (.tmp i) k, type := ty, pos, after, guard }).run P W = .ok (.value (.pointer (some ⟨n, off, none⟩))) W := by
    show (do pure (Next.value (← Instr.fieldAt τ (a.eval (.tmp i)) k)) : Sem Next).run P W = _
    rw [eval_of ((h0 i hd).trans hp)]
    simp only [Sem.run_bind, hf, Sem.run_pure, Result.andThen_ok]
  unfold Oper.wp
  rw [hr]
  exact hX W (Below.refl _ _)
/-- a value is loaded from an address that operation j has yielded -/
theorem obl_loadp {dst : Option Tmp} {τ : TypeId} {j d n off : Nat} {v : Value} {ty : TypeId} {pos : String} {after : Array Edge} {guard : Option (Nat × Bool)} (hj : (after.any fun e => Region.binds .any e && e.on == j) = true) (hdj : (ops[j]?).bind (·.dst) = some d) (hk : ks[j]? = some (.q (.pointer (some ⟨n, off, none⟩))))
    (hl : ∀ W, RowKit.Below w0.heap.size w0 W → (loadVar τ ⟨n, off, none⟩).run P W = .ok v W) :
    Obl P Q ops ks w0 a0 { dst, op := .load τ (.tmp d), type := ty, pos, after, guard } (.q v) := by
  intro a W hb h0 hd X hX
  have hr : (execOp a.eval { dst, op := .load τ (.tmp d), type := ty, pos, after, guard }).run P W = .ok (.value v) W := by
    show (do pure (Next.value (← Instr.loadAt τ (a.eval (.tmp d)))) : Sem Next).run P W = _
    rw [eval_of (hd j d _ hj hdj hk)]
    simp only [Instr.loadAt, Instr.sureAddr, Sem.run_bind, Sem.run_pure, Result.andThen_ok, hl W hb]
  unfold Oper.wp
  rw [hr]
  exact hX W (Below.refl _ _)
end
theorem wide33 : ((Try.prog.underlying 105).any wide) = true := by kernel_rfl
theorem zr33 : (Try.prog.info? 105).map (·.zero) = some (some (.agg (arr fun _ => false))) := by kernel_rfl
theorem sz33 {f : Nat → Bool} : (Try.prog.info? 105).map (·.size) = some (arr f).size := by rw [arr_size]; exact size33
/-- sign k of a cube's text: the lowest bit is sign 0. -/
def sg (V C : BitVec 128) (k : Nat) : UInt8 := if C.getLsbD k then (if V.getLsbD k then 49 else 48) else 120
def sgL (V C : BitVec 128) : List UInt8 := (List.range 128).map fun m => sg V C (127 - m)
def txt (V C : BitVec 128) : ByteArray := ⟨(sgL V C).toArray⟩
theorem sgL_len (V C : BitVec 128) : (sgL V C).length = 128 := by simp [sgL]
theorem sgL_at (V C : BitVec 128) (j : Nat) (h : j < (sgL V C).length) : (sgL V C)[j] = sg V C (127 - j) := by simp [sgL]
theorem u133 : Try.prog.underlying 133 = some (.slice 5) := by kernel_rfl
theorem u5 : Try.prog.underlying 5 = some (.int .u8) := by kernel_rfl
theorem u9 : Try.prog.underlying 9 = some .string := by kernel_rfl
theorem inf5 : (Try.prog.info? 5).map (fun i => (i.zero, i.size, i.bytes)) = some (some (.int .u8 0), 1, 1) := by kernel_rfl
theorem fld0 (n : Nat) (W : World) : (Instr.fieldAt 73 (.pointer (some ⟨n, 0, none⟩)) 0).run Try.prog W = .ok (.pointer (some ⟨n, 0, none⟩)) W := by kernel_rfl
theorem fld1 (n : Nat) (W : World) : (Instr.fieldAt 73 (.pointer (some ⟨n, 0, none⟩)) 1).run Try.prog W = .ok (.pointer (some ⟨n, 2, none⟩)) W := by kernel_rfl
theorem ag61 (W : World) : (isAgg 61).run Try.prog W = .ok true W := by kernel_rfl
theorem si61 (W : World) : (Go.sizeOf 61).run Try.prog W = .ok 2 W := by kernel_rfl
theorem ldHead {W : World} {n off : Nat} {x y : Value} (h0 : W.cell? ⟨n, off, none⟩ = some x) (h1 : W.cell? ⟨n, off + 1, none⟩ = some y) : (loadVar 61 ⟨n, off, none⟩).run Try.prog W = .ok (.agg #[x, y]) W := by
  have hl := run_loadCellsFrom_list Try.prog W ⟨n, off, none⟩ [x, y] 2 rfl (fun j v hj => by
    rw [Addr.add_lit]
    match j, hj with
    | 0, hj => simp at hj; rw [← hj]; exact h0
    | 1, hj => simp at hj; rw [← hj]; exact h1
    | j + 2, hj => simp at hj)
  simp [loadVar, ag61, si61, loadCells, hl]
/-- block g holds 128 bytes. -/
def BA (W : World) (g : Nat) (f : Nat → Int) : Prop := ∃ cur : Array Value, W.heap[g]? = some (.cells cur 5 (0, 0)) ∧ cur.size = 128 ∧ ∀ m, m < 128 → cur[m]? = some (.int .u8 (f m))
theorem BA.cell {W : World} {g : Nat} {f : Nat → Int} (h : BA W g f) {i : Nat} (hi : i < 128) : W.cell? ⟨g, i, none⟩ = some (.int .u8 (f i)) := by
  obtain ⟨cur, h1, h2, h3⟩ := h; rw [cell_b h1]; exact h3 i hi
theorem BA.set {W : World} {g : Nat} {f : Nat → Int} (h : BA W g f) (i : Nat) (v : Int) : BA (W.setCell ⟨g, i, none⟩ (.int .u8 v)) g (fun m => if m = i then v else f m) := by
  obtain ⟨cur, h1, h2, h3⟩ := h
  refine ⟨cur.setIfInBounds i (.int .u8 v), sc_at h1, by simpa using h2, fun j hj => ?_⟩
  by_cases e : j = i
  · subst e
    rw [Array.getElem?_setIfInBounds_self_of_lt (by omega)]; simp
  · rw [Array.getElem?_setIfInBounds_ne (fun hh => e hh.symm), h3 j hj]; simp [e]
theorem ba_zero (w : World) : BA (w.alloc (.cells (madeCells #[.int .u8 0] 128) 5)) w.heap.size (fun _ => 0) := by
  refine ⟨_, heap_alloc_new w _, size_madeCells _ _, fun j hj => ?_⟩
  simp [madeCells, hj]
  rw [Nat.mod_one]
  rfl
def textR (V C : BitVec 128) : Value := if cubeOk V C then .tuple #[.string (txt V C), .bool true] else .tuple #[.string ByteArray.empty, .bool false]
theorem ok_bits {V C : BitVec 128} (h : ∀ i, i < 128 → ¬ (V.getLsbD i = true ∧ C.getLsbD i = false)) : cubeOk V C = true := by
  unfold cubeOk
  rw [decide_eq_true_eq]
  apply BitVec.eq_of_getLsbD_eq
  intro i hi
  have := h i hi
  simp only [BitVec.getLsbD_and, BitVec.getLsbD_not, hi, decide_true, Bool.true_and]
  cases hv : V.getLsbD i <;> cases hc : C.getLsbD i <;> simp_all
theorem bits_ok {V C : BitVec 128} {i : Nat} (hi : i < 128) (h1 : V.getLsbD i = true) (h2 : C.getLsbD i = false) : cubeOk V C = false := by
  unfold cubeOk
  rw [decide_eq_false_iff_not]
  intro h
  have := congrArg (fun z => z.getLsbD i) h
  simp only [BitVec.getLsbD_and, BitVec.getLsbD_not, hi, decide_true, Bool.true_and, h1, h2] at this
  simp at this
set_option maxRecDepth 100000 in
set_option maxHeartbeats 4000000 in
theorem text_c {a b c d : Int} (V C : BitVec 128) (ha : a = (Plain.hiOf V).toNat) (hb : b = (Plain.loOf V).toNat) (hc : c = (Plain.hiOf C).toNat) (hd : d = (Plain.loOf C).toNat) (w : World) :
    Calls Try.prog 52 #[.agg #[.int .u64 a, .int .u64 b, .int .u64 c, .int .u64 d]] w fun e w' => e = .returned (textR V C) ∧ RowKit.Below w.heap.size w w' := by
  have HA := Lib.hid ha
  have HB := Lib.hid hb
  have HC := Lib.hid hc
  have HD := Lib.hid hd
  clear ha hb hc hd
  have hmk : ∀ w : World, (Instr.makeSlice 133 (.int .i64 128) (.int .i64 128)).run Try.prog w = .ok (.slice (some ⟨w.heap.size, 0, none⟩) 128 128) (w.alloc (.cells (madeCells #[.int .u8 0] 128) 5)) := fun w => run_make_row' (P := Try.prog) 133 5 (.int .u8 0) 1 u133 inf5 rfl .i64 .i64 128 (by omega) (by omega) w
  have HMK := Lib.hid hmk
  clear hmk
  go_enter Try.func52, Try.ntmps52
  go_wp2_with fail
  go_upto_region 1 with (fail)
  rename_i Kc hKc
  have bn : (w.alloc (.cells #[.int .u64 a, .int .u64 b, .int .u64 c, .int .u64 d] 73)).drew.heap[w.heap.size]? = some (.cells #[.int .u64 a, .int .u64 b, .int .u64 c, .int .u64 d] 73 (0, 0)) := heap_alloc_new w _
  have q0 : ∀ W, RowKit.Below (w.alloc (.cells #[.int .u64 a, .int .u64 b, .int .u64 c, .int .u64 d] 73)).drew.heap.size (w.alloc (.cells #[.int .u64 a, .int .u64 b, .int .u64 c, .int .u64 d] 73)).drew W → W.heap[w.heap.size]? = some (.cells #[.int .u64 a, .int .u64 b, .int .u64 c, .int .u64 d] 73 (0, 0)) := fun W hW => (hW.block _ (Array.getElem?_eq_some_iff.1 bn).1).trans bn
  refine wp_multi_lit [.q (.pointer (some ⟨w.heap.size, 0, none⟩)), .q (.agg #[.int .u64 a, .int .u64 b]), .q (.agg (arr V.getLsbD)), .q (.pointer (some ⟨w.heap.size, 2, none⟩)), .q (.agg #[.int .u64 c, .int .u64 d]), .q (.agg (arr C.getLsbD)), .al 105 (arr fun _ => false), .al 105 (arr fun _ => false), .st 6 2 105 (arr V.getLsbD), .st 7 5 105 (arr C.getLsbD)] (by kernel_rfl) (by kernel_rfl) ?_ ?_
  · refine ⟨?_, ?_, ?_, ?_, ?_, ?_, ?_, ?_, ?_, ?_, trivial⟩
    · exact obl_field (by kernel_rfl) rfl (fld0 _)
    · exact obl_loadp (j := 0) (by kernel_rfl) rfl rfl (fun W hW => ldHead ((cell_b (q0 W hW)).trans rfl) ((cell_b (q0 W hW)).trans rfl))
    · exact obl_call #[.agg #[.int .u64 a, .int .u64 b]] (fun a h0 hd => by simp [eval_of (hd 1 10 _ (by kernel_rfl) rfl rfl)]) (by kernel_rfl) (fun W _ => by have := Bits_c V W; rw [← HA.out, ← HB.out] at this; exact this)
    · exact obl_field (by kernel_rfl) rfl (fld1 _)
    · exact obl_loadp (j := 3) (by kernel_rfl) rfl rfl (fun W hW => ldHead ((cell_b (q0 W hW)).trans rfl) ((cell_b (q0 W hW)).trans rfl))
    · exact obl_call #[.agg #[.int .u64 c, .int .u64 d]] (fun a h0 hd => by simp [eval_of (hd 4 13 _ (by kernel_rfl) rfl rfl)]) (by kernel_rfl) (fun W _ => by have := Bits_c C W; rw [← HC.out, ← HD.out] at this; exact this)
    · exact obl_alloc zr33
    · exact obl_alloc zr33
    · exact obl_store rfl rfl (by rw [arr_size, arr_size]) rfl rfl sz33 (arr_one _)
    · exact obl_store rfl rfl (by rw [arr_size, arr_size]) rfl rfl sz33 (arr_one _)
  · intro κ W hb hκ hlaid hne
    have l1 := hlaid 8 6 2 105 _ (by decide) rfl
    have l2 := hlaid 9 7 5 105 _ (by decide) rfl
    simp [MFin, kOf, Mk.val]
    refine hKc _ _ ?_
    clear hKc
    have hbW : RowKit.Below w.heap.size w W := by
      have h1 := (Below.refl w.heap.size w).alloc (Nat.le_refl _) (.cells #[.int .u64 a, .int .u64 b, .int .u64 c, .int .u64 d] 73)
      exact h1.trans (hb.mono h1.size)
    generalize κ 6 = x7 at *
    generalize κ 7 = x8 at *
    clear hb hκ hlaid hne bn q0
    have hmk := HMK.out
    go_wp2_with fail
    clear hmk
    have lx7 : x7 < W.heap.size := (Array.getElem?_eq_some_iff.1 l1).1
    have lx8 : x8 < W.heap.size := (Array.getElem?_eq_some_iff.1 l2).1
    obtain ⟨gb, hgb⟩ : ∃ gb, Hid (gb = W.heap.size) := ⟨_, rfl⟩
    refine wp_world (fun V1 => RowKit.Below w.heap.size w V1 ∧ V1.heap[x7]? = some (.cells (arr V.getLsbD) 105 (0, 0)) ∧ V1.heap[x8]? = some (.cells (arr C.getLsbD) 105 (0, 0)) ∧ BA V1 gb (fun _ => 0)) ⟨hbW.alloc hbW.size _, (al_lt' lx7).trans l1, (al_lt' lx8).trans l2, by rw [hgb.out]; exact ba_zero W⟩ ?_
    rintro V1 ⟨hb1, m1, m2, hba⟩
    have hgw : w.heap.size ≤ gb := by rw [hgb.out]; exact hbW.size
    have hg7 : gb ≠ x7 := by rw [hgb.out]; omega
    have hg8 : gb ≠ x8 := by rw [hgb.out]; omega
    rw [← hgb.out]
    clear l1 l2 hbW lx7 lx8 hgb
    go_loopw [7] (fun v7 wr => ∃ (k : Nat) (f : Nat → Int), v7 = .int .i64 (k : Int) ∧ k ≤ 128 ∧ RowKit.Below w.heap.size w wr ∧ wr.heap[x7]? = some (.cells (arr V.getLsbD) 105 (0, 0)) ∧ wr.heap[x8]? = some (.cells (arr C.getLsbD) 105 (0, 0)) ∧ BA wr gb f ∧ (∀ i, i < k → ¬ (V.getLsbD i = true ∧ C.getLsbD i = false)) ∧ ∀ i, i < k → f (127 - i) = ((sg V C i).toNat : Int)) (fun v7 _ => 128 - (intOf v7).toNat)
    case atStart => exact ⟨0, _, rfl, by omega, hb1, m1, m2, hba, fun i hi => by omega, fun i hi => by omega⟩
    case round =>
      obtain ⟨k, f, rfl, hk, hbr, m1, m2, hba, hno, hf⟩ := hrel
      have HN := Lib.hid hno
      have HF := Lib.hid hf
      clear hno hf
      by_cases hkl : k < 128
      · have hkI : (k : Int) < 128 := by omega
        have e7 : wr.cell? ⟨x7, k, none⟩ = some (.bool (V.getLsbD k)) := (cell_b m1).trans (arr_get _ k hkl)
        have e8 : wr.cell? ⟨x8, k, none⟩ = some (.bool (C.getLsbD k)) := (cell_b m2).trans (arr_get _ k hkl)
        have hz0 := hba.cell (i := 127 - k) (by omega)
        have hsg : Hid (sg V C k = if C.getLsbD k then (if V.getLsbD k then 49 else 48) else 120) := rfl
        have hfr : wr.frozen? ⟨gb, 127 - k, none⟩ = false := by obtain ⟨cur, h1, _⟩ := hba; exact froz_b h1
        have hsub : (127 : Int) - (k : Int) = ((127 - k : Nat) : Int) := by omega
        have hsub2 : ((127 : Int) - (k : Int)).toNat = 127 - k := by omega
        have hs0 : (0 : Int) ≤ 127 - (k : Int) := by omega
        have hs1 : (127 : Int) - (k : Int) < 128 := by omega
        obtain ⟨vb, hvb⟩ : ∃ vb, Hid (V.getLsbD k = vb) := ⟨_, rfl⟩
        obtain ⟨cb, hcb⟩ : ∃ cb, Hid (C.getLsbD k = cb) := ⟨_, rfl⟩
        rw [hvb.out] at e7
        rw [hcb.out] at e8
        have hset := fun z : Int => hba.set (127 - k) z
        have HST := Lib.hid hset
        clear hset
        have done : ∀ z : Int, z = ((sg V C k).toNat : Int) → ¬ (vb = true ∧ cb = false) → (∀ i, i < k + 1 → ¬ (V.getLsbD i = true ∧ C.getLsbD i = false)) ∧ ∀ i, i < k + 1 → (fun m => if m = 127 - k then z else f m) (127 - i) = ((sg V C i).toNat : Int) := by
          intro z hz hvc
          refine ⟨fun i hi => ?_, fun i hi => ?_⟩
          · by_cases e : i = k
            · subst e; rw [hvb.out, hcb.out]; exact hvc
            · exact HN.out i (by omega)
          · by_cases e : i = k
            · subst e; simp only [if_pos]; exact hz
            · show (if 127 - i = 127 - k then z else f (127 - i)) = _
              rw [if_neg (by omega)]; exact HF.out i (by omega)
        have DN := Lib.hid done
        clear done
        cases vb with
        | true =>
          cases cb with
          | true =>
            have hz : (49 : Int) = ((sg V C k).toNat : Int) := by rw [hsg.out, hvb.out, hcb.out]; rfl
            have HZ := Lib.hid (DN.out 49 hz (by simp))
            clear hz
            go_wp2_with fail
            go_roundw
            case rel => exact ⟨k + 1, _, by go_num, by omega, hbr.setCell hgw _, (sc_ne (fun e => hg7 e.symm)).trans m1, (sc_ne (fun e => hg8 e.symm)).trans m2, HST.out 49, HZ.out.1, HZ.out.2⟩
            case measure => simp [intOf] <;> omega
          | false =>
            have hno : Hid (textR V C = .tuple #[.string ByteArray.empty, .bool false]) := by
              show textR V C = _
              unfold textR
              rw [bits_ok hkl hvb.out hcb.out]
              rfl
            go_wp2_with fail
            go_ret2
            exact ⟨by rw [hno.out]; rfl, hbr⟩
        | false =>
          cases cb with
          | true =>
            have hz : (48 : Int) = ((sg V C k).toNat : Int) := by rw [hsg.out, hvb.out, hcb.out]; rfl
            have HZ := Lib.hid (DN.out 48 hz (by simp))
            clear hz
            go_wp2_with fail
            go_roundw
            case rel => exact ⟨k + 1, _, by go_num, by omega, hbr.setCell hgw _, (sc_ne (fun e => hg7 e.symm)).trans m1, (sc_ne (fun e => hg8 e.symm)).trans m2, HST.out 48, HZ.out.1, HZ.out.2⟩
            case measure => simp [intOf] <;> omega
          | false =>
            have hz : (120 : Int) = ((sg V C k).toNat : Int) := by rw [hsg.out, hcb.out]; rfl
            have HZ := Lib.hid (DN.out 120 hz (by simp))
            clear hz
            go_wp2_with fail
            go_roundw
            case rel => exact ⟨k + 1, _, by go_num, by omega, hbr.setCell hgw _, (sc_ne (fun e => hg7 e.symm)).trans m1, (sc_ne (fun e => hg8 e.symm)).trans m2, HST.out 120, HZ.out.1, HZ.out.2⟩
            case measure => simp [intOf] <;> omega
      · have : k = 128 := by omega
        subst this
        have hok : Hid (textR V C = .tuple #[.string (txt V C), .bool true]) := by
          show textR V C = _
          unfold textR
          rw [ok_bits HN.out]
          rfl
        have hcv := run_convert_bytes_back (P := Try.prog) wr 133 9 5 ⟨gb, 0, none⟩ 128 (sgL V C) u133 u5 u9 (fun j hj => by
          have hj2 : j < 128 := by rwa [sgL_len] at hj
          rw [Addr.add_lit, hba.cell (by omega), sgL_at]
          have := HF.out (127 - j) (by omega)
          rw [show 127 - (127 - j) = j by omega] at this
          rw [show 0 + j = j by omega, this])
        rw [sgL_len] at hcv
        go_wp2_with fail
        go_ret2
        exact ⟨by rw [hok.out]; rfl, hbr⟩
/-- does the text's sign k forbid the header's bit? -/
theorem has_bits {V C X : BitVec 128} (hok : cubeOk V C = true) : (∀ k, k < 128 → ¬ ((sg V C k = 49 ∧ X.getLsbD k = false) ∨ (sg V C k = 48 ∧ X.getLsbD k = true))) ↔ X &&& C = V := by
  have hno : ∀ i, i < 128 → ¬ (V.getLsbD i = true ∧ C.getLsbD i = false) := fun i hi h => by
    have := bits_ok hi h.1 h.2
    rw [hok] at this; cases this
  constructor
  · intro h
    apply BitVec.eq_of_getLsbD_eq
    intro i hi
    have h1 := h i hi
    have h2 := hno i hi
    simp only [BitVec.getLsbD_and]
    simp only [sg] at h1
    cases hv : V.getLsbD i <;> cases hc : C.getLsbD i <;> cases hx : X.getLsbD i <;> simp [hv, hc, hx] at h1 h2 ⊢
  · intro h i hi
    have h3 := congrArg (fun z => z.getLsbD i) h
    simp only [BitVec.getLsbD_and] at h3
    simp only [sg]
    cases hv : V.getLsbD i <;> cases hc : C.getLsbD i <;> cases hx : X.getLsbD i <;> simp [hv, hc, hx] at h3 ⊢
theorem sg_cases (V C : BitVec 128) (k : Nat) : sg V C k = 49 ∨ sg V C k = 48 ∨ sg V C k = 120 := by
  unfold sg
  split
  · split
    · exact .inl rfl
    · exact .inr (.inl rfl)
  · exact .inr (.inr rfl)
theorem txt_size (V C : BitVec 128) : (txt V C).size = 128 := by
  show (sgL V C).toArray.size = 128
  rw [List.size_toArray, sgL_len]
set_option maxRecDepth 100000 in
set_option maxHeartbeats 4000000 in
theorem rhas_c {x y : Int} (V C X : BitVec 128) (hok : cubeOk V C = true) (hx : x = (Plain.hiOf X).toNat) (hy : y = (Plain.loOf X).toNat) (w : World) :
    Calls Try.prog 57 #[.string (txt V C), .agg #[.int .u64 x, .int .u64 y]] w fun e w' => e = .returned (.bool (decide (X &&& C = V))) ∧ RowKit.Below w.heap.size w w' := by
  have hB := fun W => Bits_c X W
  simp only [← hx, ← hy] at hB
  have HB := Lib.hid hB
  clear hB hx hy
  have hzz := (zero_of_info zero33).1
  have hst := store33
  have hsz := txt_size V C
  have hat : ∀ k, k < 128 → (txt V C).data[k]? = some (sg V C (127 - k)) := fun k hk => by
    have := sgL_at V C k (by rw [sgL_len]; exact hk)
    show (sgL V C).toArray[k]? = _
    rw [List.getElem?_toArray, List.getElem?_eq_getElem (by rw [sgL_len]; exact hk), this]
  have HAT := Lib.hid hat
  clear hat
  obtain ⟨s, hs⟩ : ∃ s, Hid (txt V C = s) := ⟨_, rfl⟩
  rw [hs.out] at hsz HAT ⊢
  go_enter Try.func57, Try.ntmps57
  go_wp2_with fail
  refine (HB.out _).mono ?_
  rintro e w1 ⟨rfl, hb1⟩
  have hb := ((Below.refl w.heap.size w).alloc (Nat.le_refl _) (.cells #[.int .u64 x, .int .u64 y] 61)).trans (hb1.mono (by simp))
  go_wp2_with fail
  refine wp_world (fun V1 => RowKit.Below w.heap.size w V1 ∧ V1.heap[w1.heap.size]? = some (.cells (arr X.getLsbD) 105 (0, 0))) ⟨hb.alloc hb.size _, heap_alloc_new w1 _⟩ ?_
  obtain ⟨gx, hgx⟩ : ∃ gx, Hid (gx = w1.heap.size) := ⟨_, rfl⟩
  rw [← hgx.out]
  rintro V1 ⟨hbV, m1⟩
  go_loopw [6] (fun v6 wr => ∃ k : Nat, v6 = .int .i64 (k : Int) ∧ k ≤ 128 ∧ wr = V1 ∧ ∀ i, i < k → ¬ ((sg V C (127 - i) = 49 ∧ X.getLsbD (127 - i) = false) ∨ (sg V C (127 - i) = 48 ∧ X.getLsbD (127 - i) = true))) (fun v6 _ => 128 - (intOf v6).toNat)
  case atStart => exact ⟨0, rfl, by omega, rfl, fun i hi => by omega⟩
  case round =>
    obtain ⟨k, rfl, hk, hwe, hno⟩ := hrel
    obtain rfl := hwe.symm
    have HN := Lib.hid hno
    clear hno
    by_cases hkl : k < 128
    · have hkI : (k : Int) < 128 := by omega
      have hsz2 : (s.size : Int) = 128 := by omega
      have e7 : V1.cell? ⟨gx, 127 - k, none⟩ = some (.bool (X.getLsbD (127 - k))) := (cell_b m1).trans (arr_get _ _ (by omega))
      have hsub : (127 : Int) - (k : Int) = ((127 - k : Nat) : Int) := by omega
      have hsub2 : ((127 : Int) - (k : Int)).toNat = 127 - k := by omega
      have hs0 : (0 : Int) ≤ 127 - (k : Int) := by omega
      have hs1 : (127 : Int) - (k : Int) < 128 := by omega
      have hd := HAT.out k hkl
      obtain ⟨xb, hxb⟩ : ∃ xb, Hid (X.getLsbD (127 - k) = xb) := ⟨_, rfl⟩
      obtain ⟨sb, hsb⟩ : ∃ sb, Hid (sg V C (127 - k) = sb) := ⟨_, rfl⟩
      rw [hxb.out] at e7
      rw [hsb.out] at hd
      have nx : ¬ ((sb = 49 ∧ xb = false) ∨ (sb = 48 ∧ xb = true)) → ∀ i, i < k + 1 → ¬ ((sg V C (127 - i) = 49 ∧ X.getLsbD (127 - i) = false) ∨ (sg V C (127 - i) = 48 ∧ X.getLsbD (127 - i) = true)) := fun h i hi => by
        by_cases e : i = k
        · subst e; rw [hsb.out, hxb.out]; exact h
        · exact HN.out i (by omega)
      have NX := Lib.hid nx
      clear nx
      have hcs := sg_cases V C (127 - k)
      rw [hsb.out] at hcs
      have hgk : s[k]'(by rw [hsz]; exact hkl) = sb := by
        obtain ⟨h2, h3⟩ := Array.getElem?_eq_some_iff.1 hd
        exact h3
      have hgi : (((s[k]'(by rw [hsz]; exact hkl)).toNat : Nat) : Int) = (sb.toNat : Int) := by rw [hgk]
      clear hd hgk
      rcases hcs with rfl | rfl | rfl
      · have hgi2 : (((s[k]'(by rw [hsz]; exact hkl)).toNat : Nat) : Int) = 49 := hgi
        clear hgi
        cases xb with
        | true =>
          go_wp2_with fail
          go_roundw
          case rel => exact ⟨k + 1, by go_num, by omega, by first | rfl | trivial, NX.out (by simp)⟩
          case measure => simp [intOf] <;> omega
        | false =>
          have hf : decide (X &&& C = V) = false := decide_eq_false (fun hh => (has_bits hok).2 hh (127 - k) (by omega) (by rw [hxb.out, hsb.out]; simp))
          have HF := Lib.hid hf
          clear hf
          go_wp2_with fail
          go_ret
          exact ⟨by rw [HF.out]; rfl, hbV⟩
      · have hgi2 : (((s[k]'(by rw [hsz]; exact hkl)).toNat : Nat) : Int) = 48 := hgi
        clear hgi
        cases xb with
        | true =>
          have hf : decide (X &&& C = V) = false := decide_eq_false (fun hh => (has_bits hok).2 hh (127 - k) (by omega) (by rw [hxb.out, hsb.out]; simp))
          have HF := Lib.hid hf
          clear hf
          go_wp2_with fail
          go_ret
          exact ⟨by rw [HF.out]; rfl, hbV⟩
        | false =>
          go_wp2_with fail
          go_roundw
          case rel => exact ⟨k + 1, by go_num, by omega, by first | rfl | trivial, NX.out (by simp)⟩
          case measure => simp [intOf] <;> omega
      · have hgi2 : (((s[k]'(by rw [hsz]; exact hkl)).toNat : Nat) : Int) = 120 := hgi
        clear hgi
        cases xb with
        | true =>
          go_wp2_with fail
          go_roundw
          case rel => exact ⟨k + 1, by go_num, by omega, by first | rfl | trivial, NX.out (by simp)⟩
          case measure => simp [intOf] <;> omega
        | false =>
          go_wp2_with fail
          go_roundw
          case rel => exact ⟨k + 1, by go_num, by omega, by first | rfl | trivial, NX.out (by simp)⟩
          case measure => simp [intOf] <;> omega
    · have : k = 128 := by omega
      subst this
      have hsz2 : (s.size : Int) = 128 := by omega
      have hyes : decide (X &&& C = V) = true := decide_eq_true ((has_bits hok).1 (fun i hi => by have := HN.out (127 - i) (by omega); rwa [show 127 - (127 - i) = i by omega] at this))
      have HY := Lib.hid hyes
      clear hyes
      go_wp2_with fail
      go_ret
      exact ⟨by rw [HY.out]; rfl, hbV⟩
end Go.Proofs.Ytgebehnlfihliaa.Hd
