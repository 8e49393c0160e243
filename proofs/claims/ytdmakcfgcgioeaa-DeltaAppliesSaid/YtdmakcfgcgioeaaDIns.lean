/- Delta: slices.Insert at rules. -/
import Derived.Test.YtdmakcfgcgioeaaDRow
import Derived.Laws.Externs
import Derived.Shelf.RegionOpenPlain
namespace Go.Proofs.Ytdmakcfgcgioeaa
open Go.RowKit Go.Maps
set_option linter.unusedSimpArgs false
set_option linter.unusedVariables false
set_option maxRecDepth 100000
theorem spl_grow (cur ys zs : List Value) (a m : Nat) (hm : ys.length = m) (ha : a ≤ cur.length) : (spl (spl cur a ys) (a + m) zs).take (a + m + zs.length) = cur.take a ++ ys ++ zs := by
  have h1 : (cur.take a ++ ys).length = a + m := by simp [hm]; omega
  have h2 : (spl cur a ys).take (a + m) = cur.take a ++ ys := by
    unfold spl
    rw [← h1, List.take_left]
  have h3 : (cur.take a ++ ys ++ zs).length = a + m + zs.length := by rw [List.length_append, h1]
  unfold spl at h2 ⊢
  rw [h2, ← h3, List.take_left]
theorem spl_shift (cur ys zs : List Value) (a m : Nat) (hm : ys.length = m) (ha : a + m ≤ cur.length) : (spl (spl cur (a + m) zs) a ys).take (a + m + zs.length) = cur.take a ++ ys ++ zs := by
  have h0 : (cur.take (a + m)).length = a + m := by simp; omega
  have h2 : (spl cur (a + m) zs).take a = cur.take a := by
    unfold spl
    rw [List.append_assoc, List.take_append_of_le_length (by omega), List.take_take, Nat.min_eq_left (by omega)]
  have h4 : (spl cur (a + m) zs).drop (a + m) = zs ++ cur.drop (a + m + zs.length) := by
    unfold spl
    rw [List.append_assoc]
    have h9 := List.drop_left (l₁ := cur.take (a + m)) (l₂ := zs ++ cur.drop (a + m + zs.length))
    rw [h0] at h9
    exact h9
  have h3 : (cur.take a ++ ys ++ zs).length = a + m + zs.length := by simp [hm]; omega
  rw [spl.eq_1 (spl cur (a + m) zs), hm, h2, h4, ← List.append_assoc, ← h3, List.take_left]
theorem und3 : Try.prog.underlying 3 = some (.int .i64) := by kernel_rfl
theorem wpl_id {P : Program} {w : World} {ops : Array Oper} {rest : List Oper} {o : Oper} {a : Act} {Q : Exit → Act → World → Prop} (h : wpList P ops Q (o :: rest) a w) : wpList P ops Q (o :: rest) a w := h
theorem wpList_app_run {P : Program} {w : World} {ops : Array Oper} {rest : List Oper} {o : Oper} {a : Act} {Q : Exit → Act → World → Prop} (hgd : o.guard = none) (d s : Operand) (t t' : TypeId)
    (ho : o.op = .call { callee := .builtin .append, args := #[d, s], argTypes := #[t, t'] }) (v u : Value) (hd : a.eval d = v) (hs : a.eval s = u) {v' : Value} {w' : World}
    (hr : (Builtin.append_ #[t, t'] o.type #[v, u]).run P w = .ok v' w') (h : wpList P ops Q rest (a.put o.dst v') w') : wpList P ops Q (o :: rest) a w := by
  refine wpList_plain hgd fun K hK => ?_
  unfold Oper.wp execOp
  simp only [ho, resolve, invoke, builtin, Sem.run_bind, Sem.run_pure, Result.andThen_ok, List.map_toArray, List.map_cons, List.map_nil, hd, hs, hr]
  exact hK _ _ h
def InsPost (B : Nat → Prop) (w : World) (v : Value) (n : Nat) (ys : List Value) (e : Ending) (w' : World) : Prop :=
  ∃ o' c', e = .returned (.slice o' (n + 1) c') ∧ Ow w' B 53 12 (.slice o' (n + 1) c') (n + 1) ys ∧ w.grownBy w' v.ownBlock ∧ ((Value.slice o' (n + 1) c').ownBlock = v.ownBlock ∨ (Value.slice o' (n + 1) c').ownBlock = some w.heap.size)
set_option maxHeartbeats 4000000 in
/-- at the end. -/
theorem insert_end (w : World) {B : Nat → Prop} {o : Option Addr} {c n : Nat} {xs : List Value} (h : Ow w B 53 12 (.slice o n c) n xs) (hl : n ≤ 1466015503700) (hB : ∀ g, w.heap.size ≤ g → B g)
    (gv : Nat) (r : Ru) (hv : w.heap[gv]? = some (.cells (ceR r).toArray 53 (0, 0))) :
    Calls Try.prog 32 #[.slice o n c, .int .i64 (n : Int), .slice (some ⟨gv, 0, none⟩) 1 1] w (InsPost B w (.slice o n c) n (xs ++ ceR r)) := by
  have hnc := h.rd.1
  have hcm := h.rd.2.1
  have hnn := Lib.hid h.nn
  have H := Lib.hid h
  obtain ⟨i0, hi0, hz0, hz1, hz2⟩ := info_parts inf53
  simp only [maxLen] at hcm
  have hp : n + 1 ≤ maxLen := by simp only [maxLen]; omega
  have hq : (n + 1) * 96 ≤ 140737488355328 := by omega
  have HV : Hid (∀ (j : Nat) (u : Value), (ceR r)[j]? = some u → w.cell? ((⟨gv, 0, none⟩ : Addr).add j) = some u) := Lib.hid fun j u hu => by
    rw [Addr.add_lit, Nat.zero_add, cell_b hv]; simpa using hu
  have hnI : (n : Int) ≤ (n : Int) := Int.le_refl _
  clear h hv
  have key : ∀ P : Prop, P → P := fun _ h => h
  cases o with
  | none =>
    obtain ⟨rfl, rfl⟩ := hnn.out rfl
    go_enter Try.func32, Try.ntmps32
    go_upto_region 7 with (fail)
    go_wp2_with (first | (at_builtin; refine wpList_app_ow rfl _ _ 44 rfl B 53 i0 (.agg #[.int .i64 0, .int .u64 0, .int .u64 0, .int .u64 0, .int .u64 0, .int .i64 0, .int .i64 0, .int .i64 0, .int .u64 0, .int .u64 0, .int .u64 0, .int .u64 0]) 12 96 und44 hi0 hz0 hz1 hz2 rfl (by decide) (.slice none 0 0) 0 xs (by simp [Act.eval, Act.put]) (some ⟨gv, 0, none⟩) 1 1 (ceR r) (by simp [Act.eval, Act.put]) H.out (lenR r) (fun _ => ⟨_, rfl, HV.out⟩) (oneR r) hp hq (hB _ (Nat.le_refl _)) ?_; intro o' c' w1 hown hg hat hsm))
    go_ret
    exact ⟨_, _, rfl, hown, hg, hat⟩
  | some a =>
    by_cases hci : c = n
    · subst hci
      go_enter Try.func32, Try.ntmps32
      go_upto_region 7 with (fail)
      go_wp2_with (first | (at_builtin; refine wpList_app_ow rfl _ _ 44 rfl B 53 i0 (.agg #[.int .i64 0, .int .u64 0, .int .u64 0, .int .u64 0, .int .u64 0, .int .i64 0, .int .i64 0, .int .i64 0, .int .u64 0, .int .u64 0, .int .u64 0, .int .u64 0]) 12 96 und44 hi0 hz0 hz1 hz2 rfl (by decide) (.slice (some a) c c) c xs (by simp [Act.eval, Act.put]) (some ⟨gv, 0, none⟩) 1 1 (ceR r) (by simp [Act.eval, Act.put]) H.out (lenR r) (fun _ => ⟨_, rfl, HV.out⟩) (oneR r) hp hq (hB _ (Nat.le_refl _)) ?_; intro o' c' w1 hown hg hat hsm))
      go_ret
      exact ⟨_, _, rfl, hown, hg, hat⟩
    · go_enter Try.func32, Try.ntmps32
      go_upto_region 7 with (fail)
      go_wp2_with (first | (at_builtin; refine wpList_app_ow rfl _ _ 44 rfl B 53 i0 (.agg #[.int .i64 0, .int .u64 0, .int .u64 0, .int .u64 0, .int .u64 0, .int .i64 0, .int .i64 0, .int .i64 0, .int .u64 0, .int .u64 0, .int .u64 0, .int .u64 0]) 12 96 und44 hi0 hz0 hz1 hz2 rfl (by decide) (.slice (some a) n c) n xs (by simp [Act.eval, Act.put]) (some ⟨gv, 0, none⟩) 1 1 (ceR r) (by simp [Act.eval, Act.put]) H.out (lenR r) (fun _ => ⟨_, rfl, HV.out⟩) (oneR r) hp hq (hB _ (Nat.le_refl _)) ?_; intro o' c' w1 hown hg hat hsm))
      go_ret
      exact ⟨_, _, rfl, hown, hg, hat⟩
theorem Ow.drop {W : World} {B : Nat → Prop} {e : TypeId} {sz n c : Nat} {xs : List Value} {g : Nat} (h : Ow W B e sz (.slice (some ⟨g, 0, .none⟩) n c) n xs) (k : Nat) : ∀ (j : Nat) (u : Value), (xs.drop k)[j]? = some u → W.cell? ((⟨g, k, .none⟩ : Addr).add j) = some u := by
  intro j u hu
  rw [List.getElem?_drop] at hu
  have := h.cells (g := g) rfl _ u hu
  rw [Addr.add_lit, Nat.zero_add] at this
  rw [Addr.add_lit]
  exact this
set_option maxHeartbeats 4000000 in
/-- between, no room. -/
theorem insert_grow (w : World) {B : Nat → Prop} {g n : Nat} {xs : List Value} (h : Ow w B 53 12 (.slice (some ⟨g, 0, none⟩) n n) n xs) (hl : n ≤ 1466015503700) (hB : ∀ g, w.heap.size ≤ g → B g) (i : Nat) (hi : i < n) (hx1 : ∀ u ∈ xs, u.oneCell' = true)
    (gv : Nat) (r : Ru) (hv : w.heap[gv]? = some (.cells (ceR r).toArray 53 (0, 0))) :
    Calls Try.prog 32 #[.slice (some ⟨g, 0, none⟩) n n, .int .i64 (i : Int), .slice (some ⟨gv, 0, none⟩) 1 1] w (InsPost B w (.slice (some ⟨g, 0, none⟩) n n) n (xs.take (i * 12) ++ ceR r ++ xs.drop (i * 12))) := by
  obtain ⟨cur, hBg, hg, _, hcm, hcs, htk⟩ := h.blk2
  have H := Lib.hid h
  obtain ⟨i0, hi0, hz0, hz1, hz2⟩ := info_parts inf53
  simp only [maxLen] at hcm
  have hxl : xs.length = n * 12 := h.1
  have hgl : g < w.heap.size := (Array.getElem?_eq_some_iff.1 hg).1
  have hvl : gv < w.heap.size := (Array.getElem?_eq_some_iff.1 hv).1
  have hkk : i + (n + 1 - i) = n + 1 := by omega
  -- the new row
  have hz12 : (Value.cells (.agg #[.int .i64 0, .int .u64 0, .int .u64 0, .int .u64 0, .int .u64 0, .int .i64 0, .int .i64 0, .int .i64 0, .int .u64 0, .int .u64 0, .int .u64 0, .int .u64 0])).size = 12 := rfl
  obtain ⟨cap, cur1, w1, hrun, hcap, hcap2, hg1, hcs1, htk1, hb1, hs1⟩ : ∃ cap cur1 w1, (∀ ty, (Builtin.append_ #[44, 3] ty #[.slice (some ⟨g, 0, none⟩) i n, .int .i64 ((n + 1 - i : Nat) : Int)]).run Try.prog w = .ok (.slice (some ⟨w.heap.size, 0, none⟩) (n + 1) cap) w1) ∧ n + 1 ≤ cap ∧ cap ≤ maxLen ∧ w1.heap[w.heap.size]? = some (.cells cur1 53 (0, 0)) ∧ cap * 12 ≤ cur1.size ∧ cur1.toList.take (i * 12) = xs.take (i * 12) ∧ RowKit.Below w.heap.size w w1 ∧ w1.heap.size = w.heap.size + 1 := by
    have hlt : (xs.take (i * 12)).length = i * i0.size := by rw [List.length_take, hxl, hz1]; omega
    have hold : (Builtin.firstCells i0.size i (.slice (some ⟨g, 0, none⟩) i n)).run Try.prog w.drew = .ok (xs.take (i * 12)).toArray w.drew := run_firstCells_some w.drew i0.size i ⟨g, 0, none⟩ i n _ hlt (fun j v hj => by
      have := h.cells (g := g) rfl j v (by
        have hj2 := (List.getElem?_eq_some_iff.1 hj).1
        rw [List.length_take] at hj2
        rwa [List.getElem?_take_of_lt (by omega)] at hj)
      simpa using this)
    have hr := fun ty => Lib.run_append_grow_zeros (P := Try.prog) w 44 3 ty 53 i0 (.agg #[.int .i64 0, .int .u64 0, .int .u64 0, .int .u64 0, .int .u64 0, .int .i64 0, .int .i64 0, .int .i64 0, .int .u64 0, .int .u64 0, .int .u64 0, .int .u64 0]) .i64 .i64 und44 und3 hi0 hz0 (some ⟨g, 0, none⟩) i n (xs.take (i * 12)) hold (n + 1 - i) (by omega) (by omega) (by omega) (by omega) (by rw [hz2]; omega) (growslice_fits (by omega) (by rw [hz2]; omega))
    rw [hkk] at hr
    have hge := grownCap_ge w (n + 1) n 53
    refine ⟨_, _, _, hr, hge, grownCap_le_maxLen w (n + 1) n 53 (by simp only [maxLen]; omega), heap_alloc_new w.drew _, ?_, ?_, below_al (below_dr (Below.refl _ _)) _, by simp⟩
    · simp only [Array.size_append, List.size_toArray, size_zeroCells, hz12, hlt, hz1]
      omega
    · simp only [Array.toList_append, List.append_assoc]
      have h9 := fun (l : List Value) => List.take_left (l₁ := xs.take (i * 12)) (l₂ := l)
      rw [hlt, hz1] at h9
      exact h9 _
  have hcsz : n + 1 ≤ cap := hcap
  have hlen1 : cur1.toList.length = cur1.size := Array.length_toList
  have m1 : Nat.min 1 (n + 1 - i) = 1 := Nat.min_eq_left (by omega)
  have m2 : Nat.min (n - i) (n - i) = n - i := Nat.min_self _
  -- the two copies
  obtain ⟨w2, hw2⟩ : ∃ w2, Hid (w2 = w1.setRow w.heap.size (spl cur1.toList (i * 12) (ceR r)).toArray) := ⟨_, Lib.hid rfl⟩
  have hg2 : w2.heap[w.heap.size]? = some (.cells (spl cur1.toList (i * 12) (ceR r)).toArray 53 (0, 0)) := by rw [hw2.out]; exact setRow_heap w1 _ _ _ _ _ hg1
  have hb2 : RowKit.Below w.heap.size w w2 := by
    rw [hw2.out]
    exact hb1.trans ⟨rfl, rfl, rfl, by simp [World.setRow], fun k hk => setRow_other w1 _ k _ (by omega)⟩
  have hc1 : Hid (∀ ty, (Builtin.copy_ #[44, 44] ty #[.slice (some ⟨w.heap.size, i * 12, none⟩) (n + 1 - i) (cap - i), .slice (some ⟨gv, 0, none⟩) 1 1]).run Try.prog w1 = .ok (goInt 1) w2) := Lib.hid fun ty => by
    have := run_copy_rows (P := Try.prog) (w := w1) 44 44 ty 53 i0 und44 hi0 w.heap.size (i * 12) (n + 1 - i) (cap - i) ⟨gv, 0, none⟩ 1 1 cur1 53 (ceR r) hg1 (by rw [hz1, m1]; rfl) (fun j v hj => by
      rw [Addr.add_lit, Nat.zero_add, cell_b ((hb1.block gv hvl).trans hv)]; simpa using hj) (by rw [lenR]; omega) (oneR r)
    rw [m1] at this
    rw [this, hw2.out]; rfl
  have hg2d : w2.drew.heap[w.heap.size]? = some (.cells (spl cur1.toList (i * 12) (ceR r)).toArray 53 (0, 0)) := hg2
  have hb2d : RowKit.Below w.heap.size w w2.drew := below_dr hb2
  obtain ⟨w3, hw3⟩ : ∃ w3, Hid (w3 = w2.drew.setRow w.heap.size (spl (spl cur1.toList (i * 12) (ceR r)) (i * 12 + 12) (xs.drop (i * 12))).toArray) := ⟨_, Lib.hid rfl⟩
  have hdl : (xs.drop (i * 12)).length = (n - i) * 12 := by rw [List.length_drop, hxl, Nat.sub_mul]
  have hsl : (spl cur1.toList (i * 12) (ceR r)).length = cur1.size := by rw [spl_len _ _ _ (by rw [lenR, hlen1]; omega), hlen1]
  have hc2 : Hid (∀ ty, (Builtin.copy_ #[44, 44] ty #[.slice (some ⟨w.heap.size, (i + 1) * 12, none⟩) (n - i) (cap - (i + 1)), .slice (some ⟨g, i * 12, none⟩) (n - i) (n - i)]).run Try.prog w2.drew = .ok (goInt ((n - i : Nat) : Int)) w3) := Lib.hid fun ty => by
    have := run_copy_rows (P := Try.prog) (w := w2.drew) 44 44 ty 53 i0 und44 hi0 w.heap.size ((i + 1) * 12) (n - i) (cap - (i + 1)) ⟨g, i * 12, none⟩ (n - i) (n - i) (spl cur1.toList (i * 12) (ceR r)).toArray 53 (xs.drop (i * 12)) hg2d (by rw [hz1, m2]; exact hdl) (fun j v hj => by
      rw [World.cell?_of_block (w := w) (hb2d.block _ (by rw [Addr.add_lit]; exact hgl))]
      exact H.out.drop _ j v hj) (by rw [hdl, List.size_toArray, hsl]; omega) (fun u hu => hx1 u (List.mem_of_mem_drop hu))
    rw [m2] at this
    rw [this, hw3.out, Nat.add_mul]
  have hfin : InsPost B w (.slice (some ⟨g, 0, none⟩) n n) n (xs.take (i * 12) ++ ceR r ++ xs.drop (i * 12)) (.returned (.slice (some ⟨w.heap.size, 0, none⟩) (n + 1) cap)) w3 := by
    refine ⟨_, _, rfl, ⟨?_, .inr ⟨w.heap.size, cap, _, rfl, hB _ (Nat.le_refl _), by rw [hw3.out]; exact setRow_heap w2.drew _ _ _ _ _ hg2d, hcap, hcap2, ?_, ?_⟩⟩, ?_, .inr rfl⟩
    · simp only [List.length_append, List.length_take, lenR, hdl, hxl]; omega
    · rw [List.size_toArray, spl_len _ _ _ (by rw [hdl, hsl]; omega), hsl]; exact hcs1
    · have e : (n + 1) * 12 = i * 12 + 12 + (xs.drop (i * 12)).length := by rw [hdl]; omega
      rw [List.toList_toArray, e, spl_grow _ _ _ _ 12 (lenR r) (by rw [hlen1]; omega), htk1]
    · rw [hw3.out]
      refine ⟨hb2d.os, hb2d.tape, hb2d.output, by simpa [World.setRow] using hb2d.size, fun k hk _ => (setRow_other w2.drew _ k _ (by omega)).trans (hb2d.block k hk)⟩
  have HF := Lib.hid hfin
  have HR := Lib.hid hrun
  have hci : ¬ n = i := by omega
  have hci2 : ¬ cap = i := by omega
  have hci3 : ¬ cap = i + 1 := by omega
  have hiI : (i : Int) < (n : Int) := by omega
  have hne : ((i : Int) == (n : Int)) = false := by simp; omega
  have hmk : (n : Int) + 1 - (i : Int) = ((n + 1 - i : Nat) : Int) := by omega
  have hcI : (n : Int) + 1 ≤ (cap : Int) := by omega
  have hiL : (i : Int) ≤ (n : Int) := by omega
  have hiN : i ≤ n := by omega
  have hi00 : (0 : Int) ≤ (i : Int) + 1 := by omega
  have hw1 : IntKind.i64.wrap ((i : Int) + 1) = (i : Int) + 1 := by rw [IntKind.wrap_i64]; omega
  have htn : ((i : Int) + 1).toNat = i + 1 := by omega
  simp only [maxLen] at hcap2
  have hcb : (cap : Int) ≤ 9223372036854775807 := by omega
  clear hv hg htk hg1 hg2 hb1 hb2 hg2d hb2d hcs hcs1 htk1 hs1 hrun hfin hw2 hw3 hdl hsl hlen1 hxl hx1 h hkk hz12 m1 m2
  go_enter Try.func32, Try.ntmps32
  go_upto_region 9 with (fail)
  go_upto_region 10 with (at_builtin; refine wpList_app_run rfl (.tmp 34) (.tmp 39) 44 3 rfl _ _ rfl (by simp only [Act.eval, Act.put, hmk]; rfl) (HR.out _) ?_)
  go_upto_region 11 with (with_reducible refine wpl_id ?_; refine wpList_copy_run rfl _ _ _ _ rfl _ _ rfl rfl (hc1.out _) ?_)
  go_region_held_law (fun _ => True) (exact trivial)
    (refine step_copy_run rfl (.tmp 50) (.tmp 53) 44 44 rfl _ _ (by simp [Act.eval, Act.put]) (by simp [Act.eval, Act.put]) 54 rfl (hc2.out _) ?_)
  all_goals
    go_wp2_with fail
    go_ret
    exact HF.out
set_option maxHeartbeats 4000000 in
/-- between, in place. -/
theorem insert_shift (w : World) {B : Nat → Prop} {g n c : Nat} {xs : List Value} (h : Ow w B 53 12 (.slice (some ⟨g, 0, none⟩) n c) n xs) (hl : n ≤ 1466015503700) (i : Nat) (hi : i < n) (hc : n + 1 ≤ c) (hx1 : ∀ u ∈ xs, u.oneCell' = true)
    (gv : Nat) (r : Ru) (hv : w.heap[gv]? = some (.cells (ceR r).toArray 53 (0, 0))) (hgv : gv ≠ g) :
    Calls Try.prog 32 #[.slice (some ⟨g, 0, none⟩) n c, .int .i64 (i : Int), .slice (some ⟨gv, 0, none⟩) 1 1] w (InsPost B w (.slice (some ⟨g, 0, none⟩) n c) n (xs.take (i * 12) ++ ceR r ++ xs.drop (i * 12))) := by
  obtain ⟨cur, hBg, hg, _, hcm, hcs, htk⟩ := h.blk2
  have H := Lib.hid h
  obtain ⟨i0, hi0, hz0, hz1, hz2⟩ := info_parts inf53
  have hcm' := hcm
  simp only [maxLen] at hcm
  have hxl : xs.length = n * 12 := h.1
  have hlen : cur.toList.length = cur.size := Array.length_toList
  have hdl : (xs.drop (i * 12)).length = (n - i) * 12 := by rw [List.length_drop, hxl, Nat.sub_mul]
  have m1 : Nat.min 1 (n + 1 - i) = 1 := Nat.min_eq_left (by omega)
  have m2 : Nat.min (n + 1 - i) (n - i) = n - i := Nat.min_eq_right (by omega)
  have hov : ∀ lb cb, (callFunc 39 #[.slice (some ⟨gv, 0, none⟩) 1 1, .slice (some ⟨g, (i + 1) * 12, none⟩) lb cb]).run Try.prog w = .ok (.value (.bool false)) w := fun lb cb => by
    rw [run_callFunc_extern Try.func39 (by kernel_rfl) (by kernel_rfl) (by kernel_rfl) (e := Extern.SlicesOverlaps.overlaps #[44, 44] #[4]) (by kernel_rfl),
      Lib.run_overlaps_apart w 44 4 53 und44 12 (fun w => by simp [sizeOf, typeInfo, hi0, hz1]) ⟨gv, 0, none⟩ ⟨g, (i + 1) * 12, none⟩ 1 1 lb cb hgv 53 53 12 cur.size (by simp [World.shape?, hv, ceR]) (by simp [World.shape?, hg]) (by omega) (by simp [World.frozen?, hv]) (by simp [World.frozen?, hv])]
    rfl
  have hgd : w.drew.heap[g]? = some (.cells cur 53 (0, 0)) := hg
  obtain ⟨w1, hw1⟩ : ∃ w1, Hid (w1 = w.drew.setRow g (spl cur.toList (i * 12 + 12) (xs.drop (i * 12))).toArray) := ⟨_, Lib.hid rfl⟩
  have hc1 : Hid (∀ ty, (Builtin.copy_ #[44, 44] ty #[.slice (some ⟨g, (i + 1) * 12, none⟩) (n - i) (c - (i + 1)), .slice (some ⟨g, i * 12, none⟩) (n + 1 - i) (c - i)]).run Try.prog w.drew = .ok (goInt ((n - i : Nat) : Int)) w1) := Lib.hid fun ty => by
    have := run_copy_rows (P := Try.prog) (w := w.drew) 44 44 ty 53 i0 und44 hi0 g ((i + 1) * 12) (n - i) (c - (i + 1)) ⟨g, i * 12, none⟩ (n + 1 - i) (c - i) cur 53 (xs.drop (i * 12)) hgd (by rw [hz1, m2]; exact hdl) (fun j v hj => H.out.drop _ j v hj) (by rw [hdl]; omega) (fun u hu => hx1 u (List.mem_of_mem_drop hu))
    rw [m2] at this
    rw [this, hw1.out, Nat.add_mul]
  have hg1 : w1.heap[g]? = some (.cells (spl cur.toList (i * 12 + 12) (xs.drop (i * 12))).toArray 53 (0, 0)) := by rw [hw1.out]; exact setRow_heap w.drew _ _ _ _ _ hgd
  have hsl : (spl cur.toList (i * 12 + 12) (xs.drop (i * 12))).length = cur.size := by rw [spl_len _ _ _ (by rw [hdl, hlen]; omega), hlen]
  obtain ⟨w2, hw2⟩ : ∃ w2, Hid (w2 = w1.setRow g (spl (spl cur.toList (i * 12 + 12) (xs.drop (i * 12))) (i * 12) (ceR r)).toArray) := ⟨_, Lib.hid rfl⟩
  have hv1 : w1.heap[gv]? = some (.cells (ceR r).toArray 53 (0, 0)) := by rw [hw1.out]; exact (setRow_other w.drew g gv _ hgv).trans hv
  have hc2 : Hid (∀ ty, (Builtin.copy_ #[44, 44] ty #[.slice (some ⟨g, i * 12, none⟩) (n + 1 - i) (c - i), .slice (some ⟨gv, 0, none⟩) 1 1]).run Try.prog w1 = .ok (goInt 1) w2) := Lib.hid fun ty => by
    have := run_copy_rows (P := Try.prog) (w := w1) 44 44 ty 53 i0 und44 hi0 g (i * 12) (n + 1 - i) (c - i) ⟨gv, 0, none⟩ 1 1 (spl cur.toList (i * 12 + 12) (xs.drop (i * 12))).toArray 53 (ceR r) hg1 (by rw [hz1, m1]; rfl) (fun j v hj => by
      rw [Addr.add_lit, Nat.zero_add, cell_b hv1]; simpa using hj) (by rw [lenR, List.size_toArray, hsl]; omega) (oneR r)
    rw [m1] at this
    rw [this, hw2.out]; rfl
  have hfin : InsPost B w (.slice (some ⟨g, 0, none⟩) n c) n (xs.take (i * 12) ++ ceR r ++ xs.drop (i * 12)) (.returned (.slice (some ⟨g, 0, none⟩) (n + 1) c)) w2 := by
    refine ⟨_, _, rfl, ⟨?_, .inr ⟨g, c, _, rfl, hBg, by rw [hw2.out]; exact setRow_heap w1 _ _ _ _ _ hg1, hc, hcm', ?_, ?_⟩⟩, ?_, .inl rfl⟩
    · simp only [List.length_append, List.length_take, lenR, hdl, hxl]; omega
    · rw [List.size_toArray, spl_len _ _ _ (by rw [lenR, hsl]; omega), hsl]; exact hcs
    · have e : (n + 1) * 12 = i * 12 + 12 + (xs.drop (i * 12)).length := by rw [hdl]; omega
      have e2 : cur.toList.take (i * 12) = xs.take (i * 12) := by rw [← htk, List.take_take, Nat.min_eq_left (by omega)]
      rw [List.toList_toArray, e, spl_shift _ _ _ _ 12 (lenR r) (by rw [hlen]; omega), e2]
    · rw [hw2.out, hw1.out]
      exact grown_drew ((grown_setRow (v := .slice (some ⟨g, 0, none⟩) n c) rfl).trans (grown_setRow (v := .slice (some ⟨g, 0, none⟩) n c) rfl))
  have HF := Lib.hid hfin
  have hci : ¬ c = i := by omega
  have hci3 : ¬ c = i + 1 := by omega
  have hcn : ¬ c < n + 1 := by omega
  have hiI : (i : Int) < (n : Int) := by omega
  have hne : ((i : Int) == (n : Int)) = false := by simp; omega
  have hcI : (n : Int) + 1 ≤ (c : Int) := by omega
  have hcJ : ¬ (c : Int) < (n : Int) + 1 := by omega
  have hiL : (i : Int) ≤ (n : Int) := by omega
  have hiN : i ≤ n := by omega
  have hi00 : (0 : Int) ≤ (i : Int) + 1 := by omega
  have hn00 : (0 : Int) ≤ (n : Int) + 1 := by omega
  have hiJ : (i : Int) ≤ (n : Int) + 1 := by omega
  have hw1' : IntKind.i64.wrap ((i : Int) + 1) = (i : Int) + 1 := by rw [IntKind.wrap_i64]; omega
  have htn : ((i : Int) + 1).toNat = i + 1 := by omega
  have htn2 : ((n : Int) + 1).toNat = n + 1 := by omega
  have hcb : (c : Int) ≤ 9223372036854775807 := by omega
  have hOV := Lib.hid hov
  clear hv hg htk hg1 hgd hcs hfin hw2 hw1 hdl hsl hlen hxl hx1 h m1 m2 hv1 hcm' hov
  go_enter Try.func32, Try.ntmps32
  go_upto_region 13 with (fail)
  have hov := hOV.out
  go_upto_region 15 with (simp only [hov])
  go_region_held_law (fun _ => True) (exact trivial)
    (refine step_copy_run rfl (.tmp 73) (.tmp 76) 44 44 rfl _ _ (by simp [Act.eval, Act.put]) (by simp [Act.eval, Act.put]) 77 rfl (hc1.out _) ?_)
  all_goals
    go_wp2_with (with_reducible refine wpl_id ?_; refine wpList_copy_run rfl _ _ _ _ rfl _ _ rfl rfl (hc2.out _) ?_)
    go_ret
    first | exact HF.out | (rw [← List.append_assoc]; exact HF.out)
theorem insert_c (w : World) {B : Nat → Prop} {o : Option Addr} {c : Nat} {l : List Ru} (h : Ow w B 53 12 (.slice o l.length c) l.length (l.flatMap ceR)) (hl : l.length ≤ 1466015503700) (hB : ∀ g, w.heap.size ≤ g → B g) (i : Nat) (hi : i ≤ l.length)
    (gv : Nat) (r : Ru) (hv : w.heap[gv]? = some (.cells (ceR r).toArray 53 (0, 0))) (hgv : ∀ g, (Value.slice o l.length c).ownBlock = some g → gv ≠ g) :
    Calls Try.prog 32 #[.slice o l.length c, .int .i64 (i : Int), .slice (some ⟨gv, 0, none⟩) 1 1] w (InsPost B w (.slice o l.length c) l.length ((l.take i ++ r :: l.drop i).flatMap ceR)) := by
  have e : (l.take i ++ r :: l.drop i).flatMap ceR = (l.flatMap ceR).take (i * 12) ++ ceR r ++ (l.flatMap ceR).drop (i * 12) := by
    rw [List.flatMap_append, List.flatMap_cons, flat_take lenR _ _ hi, flat_drop lenR _ _ hi, List.append_assoc]
  have hx1 := flat_one oneR l
  rw [e]
  by_cases hie : i = l.length
  · subst hie
    have e2 : (l.flatMap ceR).length = l.length * 12 := flat_len lenR l
    rw [← e2, List.take_length, List.drop_length, List.append_nil]
    exact insert_end w h hl hB gv r hv
  · obtain ⟨g, cur, rfl, _, _, hnc, _⟩ := h.blk (by omega)
    by_cases hc : c = l.length
    · subst hc
      exact insert_grow w h hl hB i (by omega) hx1 gv r hv
    · exact insert_shift w h hl i (by omega) (by omega) hx1 gv r hv (hgv g rfl)
end Go.Proofs.Ytdmakcfgcgioeaa
