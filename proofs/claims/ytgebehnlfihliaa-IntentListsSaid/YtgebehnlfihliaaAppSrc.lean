/- append of whatever row onto a row of one's own: one step of a region that draws; and in a plain region. -/
import Derived.Test.YtgebehnlfihliaaIn14
import Derived.Deep.Upon
namespace Go.Proofs.Ytgebehnlfihliaa
open Go.RowKit Go.Maps
set_option linter.unusedSimpArgs false
set_option linter.unusedVariables false
section
variable {P : Program} {w : World}
theorem app_src (base : Nat) (t ty e : TypeId) (i : TypeInfo) (z : Value) (size bytes : Nat) (ht : P.underlying t = some (.slice e)) (hi : P.info? e = some i) (hz : i.zero = some z)
    (hsize : i.size = size) (hby : i.bytes = bytes) (hzs : z.cells.size = size) (hsz : 0 < size) (v : Value) (n : Nat) (xs : List Value) (hown : w.ownsRow base e size v n xs)
    (so : Option Addr) (m c : Nat) (news : List Value) (hl : news.length = m * size) (hnews : 0 < m → ∃ ad, so = some ad ∧ ∀ (j : Nat) (u : Value), news[j]? = some u → w.cell? (ad.add j) = some u) (h1 : ∀ u ∈ news, u.oneCell' = true)
    (h63 : n + m ≤ maxLen) (hbytes : (n + m) * bytes ≤ 140737488355328) (hbase : base ≤ w.heap.size) :
    ∃ o' cap' w', (Builtin.append_ #[t, t] ty #[v, .slice so m c]).run P w = .ok (.slice o' (n + m) cap') w' ∧ w'.ownsRow base e size (.slice o' (n + m) cap') (n + m) (xs ++ news) ∧ w.grownBy w' v.ownBlock := by
  rcases Nat.eq_zero_or_pos m with h0 | h0
  · subst h0
    have hnn : news = [] := List.length_eq_zero_iff.1 (by rw [hl, Nat.zero_mul])
    subst hnn
    obtain ⟨o', cap', rfl⟩ := slice_form hown
    have hnc : n ≤ cap' := by
      rcases hown.2 with ⟨h, h2⟩ | ⟨g, c2, cur, h, _, _, h2, _⟩
      · omega
      · cases h; exact h2
    have hsrc : Src P i.size t (.slice so 0 c) 0 [] w := by
      cases so with
      | none => exact Src.ofNil w ht c
      | some ad => exact Src.ofSlice w ht ad 0 c [] (by simp) (fun j u hu => by simp at hu) (fun u hu => by simp at hu)
    exact ⟨o', cap', w, run_append_nothing w t t ty e i ht hi o' n cap' hnc _ hsrc, by simpa using hown, ⟨rfl, rfl, rfl, Nat.le_refl _, fun _ _ _ => rfl⟩⟩
  · obtain ⟨ad, rfl, hc⟩ := hnews h0
    obtain ⟨v', w', hr, h2, h3, _, h5⟩ := run_append_own_at (P := P) w base t ty e i z size bytes ht hi hz hsize hby hzs hsz v n xs hown ad m c news hl hc h1 h63 hbytes hbase
    obtain ⟨o', cap', rfl⟩ := slice_form h2
    exact ⟨o', cap', w', hr, h2, h3⟩
/-- at a step of a region that draws -/
theorem step_app_src {ops : Array Oper} {o : Oper} {a : Act} {K : Act → World → Prop} {Q : Exit → Act → World → Prop} {E : Prop} (hgd : o.guard = none) (s x : Operand) (t : TypeId)
    (ho : o.op = .call { callee := .builtin .append, args := #[s, x], argTypes := #[t, t] }) (base : Nat) (e : TypeId) (i : TypeInfo) (z : Value) (size bytes : Nat) (ht : P.underlying t = some (.slice e)) (hi : P.info? e = some i) (hz : i.zero = some z)
    (hsize : i.size = size) (hby : i.bytes = bytes) (hzs : z.cells.size = size) (hsz : 0 < size) (v : Value) (n : Nat) (xs : List Value) (hs : a.eval s = v) (so : Option Addr) (m c : Nat) (news : List Value) (hx : a.eval x = .slice so m c) (d : Tmp) (hd : o.dst = some d)
    (hown : w.ownsRow base e size v n xs) (hl : news.length = m * size) (hnews : 0 < m → ∃ ad, so = some ad ∧ ∀ (j : Nat) (u : Value), news[j]? = some u → w.cell? (ad.add j) = some u) (h1 : ∀ u ∈ news, u.oneCell' = true)
    (h63 : n + m ≤ maxLen) (hbytes : (n + m) * bytes ≤ 140737488355328) (hbase : base ≤ w.heap.size)
    (h : ∀ o' cap' w', w'.ownsRow base e size (.slice o' (n + m) cap') (n + m) (xs ++ news) → w.grownBy w' v.ownBlock → K (a.put (some d) (.slice o' (n + m) cap')) w') :
    if Region.wanted o (yielded ops a.tmps) = true then Oper.wp P o a w K Q else E := by
  have hw : Region.wanted o (yielded ops a.tmps) = true := by simp [Region.wanted, hgd]
  rw [if_pos hw]
  obtain ⟨o', cap', w', hr, h2, h3⟩ := app_src (P := P) (w := w) base t o.type e i z size bytes ht hi hz hsize hby hzs hsz v n xs hown so m c news hl hnews h1 h63 hbytes hbase
  unfold Oper.wp execOp
  simp only [ho, resolve, invoke, builtin, Sem.run_bind, Sem.run_pure, Result.andThen_ok, List.map_toArray, List.map_cons, List.map_nil, hs, hx, hr]
  show K (a.put o.dst _) _
  rw [hd]
  exact h _ _ _ h2 h3
/-- in a plain region's list -/
theorem wpList_app_src {ops : Array Oper} {rest : List Oper} {o : Oper} {a : Act} {Q : Exit → Act → World → Prop} (hgd : o.guard = none) (s x : Operand) (t : TypeId)
    (ho : o.op = .call { callee := .builtin .append, args := #[s, x], argTypes := #[t, t] }) (base : Nat) (e : TypeId) (i : TypeInfo) (z : Value) (size bytes : Nat) (ht : P.underlying t = some (.slice e)) (hi : P.info? e = some i) (hz : i.zero = some z)
    (hsize : i.size = size) (hby : i.bytes = bytes) (hzs : z.cells.size = size) (hsz : 0 < size) (v : Value) (n : Nat) (xs : List Value) (hs : a.eval s = v) (so : Option Addr) (m c : Nat) (news : List Value) (hx : a.eval x = .slice so m c)
    (hown : w.ownsRow base e size v n xs) (hl : news.length = m * size) (hnews : 0 < m → ∃ ad, so = some ad ∧ ∀ (j : Nat) (u : Value), news[j]? = some u → w.cell? (ad.add j) = some u) (h1 : ∀ u ∈ news, u.oneCell' = true)
    (h63 : n + m ≤ maxLen) (hbytes : (n + m) * bytes ≤ 140737488355328) (hbase : base ≤ w.heap.size)
    (h : ∀ o' cap' w', w'.ownsRow base e size (.slice o' (n + m) cap') (n + m) (xs ++ news) → w.grownBy w' v.ownBlock → wpList P ops Q rest (a.put o.dst (.slice o' (n + m) cap')) w') :
    wpList P ops Q (o :: rest) a w := by
  refine wpList_plain hgd fun K hK => ?_
  obtain ⟨o', cap', w', hr, h2, h3⟩ := app_src (P := P) (w := w) base t o.type e i z size bytes ht hi hz hsize hby hzs hsz v n xs hown so m c news hl hnews h1 h63 hbytes hbase
  unfold Oper.wp execOp
  simp only [ho, resolve, invoke, builtin, Sem.run_bind, Sem.run_pure, Result.andThen_ok, List.map_toArray, List.map_cons, List.map_nil, hs, hx, hr]
  exact hK _ _ (h _ _ _ h2 h3)
end
def flatR (cv : Nat → Nat → Value) (sz n : Nat) : List Value := (List.range (n * sz)).map fun j => cv (j / sz) (j % sz)
theorem flatR_len (cv : Nat → Nat → Value) (sz n : Nat) : (flatR cv sz n).length = n * sz := by simp [flatR]
theorem flatR_at (cv : Nat → Nat → Value) {sz n i k : Nat} (hi : i < n) (hk : k < sz) : (flatR cv sz n)[i * sz + k]? = some (cv i k) := by
  have h1 : i * sz + k < n * sz := by
    have : (i + 1) * sz ≤ n * sz := Nat.mul_le_mul_right _ hi
    rw [Nat.add_mul] at this
    omega
  have h2 : (i * sz + k) / sz = i := by
    rw [Nat.mul_comm, Nat.mul_add_div (by omega), Nat.div_eq_of_lt hk, Nat.add_zero]
  have h3 : (i * sz + k) % sz = k := by
    rw [Nat.mul_comm, Nat.mul_add_mod, Nat.mod_eq_of_lt hk]
  simp [flatR, h1, h2, h3]
theorem flatR_one {cv : Nat → Nat → Value} {sz n : Nat} (h : ∀ i k, (cv i k).oneCell' = true) : ∀ u ∈ flatR cv sz n, u.oneCell' = true := by
  intro u hu
  simp only [flatR, List.mem_map] at hu
  obtain ⟨j, _, rfl⟩ := hu
  exact h _ _
theorem Rw.news {W : World} {o : Option Addr} {n cap sz : Nat} {cv : Nat → Nat → Value} (h : Rw W o n cap sz cv) (hsz : 0 < sz) : 0 < n → ∃ ad, o = some ad ∧ ∀ (j : Nat) (u : Value), (flatR cv sz n)[j]? = some u → W.cell? (ad.add j) = some u := by
  intro hn
  obtain ⟨h1, h2, b, off, h3, h4⟩ := h
  refine ⟨_, h3 hn, fun j u hu => ?_⟩
  have hj : j < n * sz := by
    have := (List.getElem?_eq_some_iff.1 hu).1
    rwa [flatR_len] at this
  have hq : j / sz < n := by rw [Nat.div_lt_iff_lt_mul hsz]; exact hj
  have hr : j % sz < sz := Nat.mod_lt _ hsz
  have e : j / sz * sz + j % sz = j := by rw [Nat.mul_comm]; exact Nat.div_add_mod j sz
  have := h4 (j / sz) (j % sz) hq hr
  rw [Nat.add_assoc, e] at this
  rw [Addr.add_lit, this]
  have h5 := flatR_at cv hq hr
  rw [e, hu] at h5
  exact h5.symm
theorem own_rw {W : World} {base : Nat} {e : TypeId} {o : Option Addr} {n cap sz : Nat} {xs : List Value} {cv : Nat → Nat → Value} (h : W.ownsRow base e sz (.slice o n cap) n xs) (hx : ∀ i k, i < n → k < sz → xs[i * sz + k]? = some (cv i k)) : Rw W o n cap sz cv := by
  rcases h.2 with ⟨h1, h2⟩ | ⟨g, c2, cur, h1, h2, h3, h4, h5, h6, h7⟩
  · cases h1
    exact ⟨Nat.le_refl _, Nat.zero_le _, 0, 0, fun h => by omega, fun i k hi => by omega⟩
  · cases h1
    refine ⟨h4, h5, g, 0, fun _ => rfl, fun i k hi hk => ?_⟩
    have h8 := hx i k hi hk
    have h9 : i * sz + k < n * sz := by
      have : (i + 1) * sz ≤ n * sz := Nat.mul_le_mul_right _ hi
      rw [Nat.add_mul] at this
      omega
    rw [← h7, List.getElem?_take_of_lt h9] at h8
    rw [cell_b h3, Nat.zero_add]
    simpa using h8
theorem below_grown {W V V' : World} {e : TypeId} {sz : Nat} {v : Value} {n base : Nat} {xs : List Value} (hb : W.heap.size ≤ base) (hV : RowKit.Below W.heap.size W V) (hown : V.ownsRow base e sz v n xs) (hg : V.grownBy V' v.ownBlock) : RowKit.Below W.heap.size W V' := by
  have hs := hg.size
  refine hV.trans ⟨hg.os, hg.tape, hg.output, hs, fun b' hb' => ?_⟩
  exact hg.block b' (Nat.lt_of_lt_of_le hb' hV.size) (fun e => by have := (hown.lt b' e.symm).1; omega)
theorem own_empty {W : World} {base g : Nat} {e : TypeId} {sz : Nat} (hb : base ≤ g) (h : W.heap[g]? = some (.cells #[] e (0, 0))) : W.ownsRow base e sz (.slice (some ⟨g, 0, none⟩) 0 0) 0 [] :=
  ⟨by simp, .inr ⟨g, 0, #[], rfl, hb, h, Nat.le_refl _, Nat.zero_le _, by simp, by simp⟩⟩
theorem own_al {W : World} {base : Nat} {e : TypeId} {sz n : Nat} {v : Value} {xs : List Value} (h : W.ownsRow base e sz v n xs) (o : Obj) : (W.alloc o).ownsRow base e sz v n xs := owns_of h (fun g hg => al_lt' (h.lt g hg).2)
theorem cvP_one (f : Nat → Int × Int) (i k : Nat) : (cvP f i k).oneCell' = true := by unfold cvP; split <;> rfl
theorem cvE_one (f : Nat → En) (i k : Nat) : (cvE f i k).oneCell' = true := by unfold cvE; repeat' split
                                                                               all_goals rfl
theorem cvA_one (f : Nat → Ac) (i k : Nat) : (cvA f i k).oneCell' = true := by unfold cvA; repeat' split
                                                                               all_goals rfl
theorem und49 : Try.prog.underlying 49 = some (.slice 70) := by kernel_rfl
theorem und53 : Try.prog.underlying 53 = some (.slice 68) := by kernel_rfl
theorem und54 : Try.prog.underlying 54 = some (.slice 75) := by kernel_rfl
theorem inf70 : (Try.prog.info? 70).map (fun i => (i.zero, i.size, i.bytes)) = some (some (.agg #[.int .i64 0, .int .i64 0]), 2, 16) := by kernel_rfl
theorem inf68 : (Try.prog.info? 68).map (fun i => (i.zero, i.size, i.bytes)) = some (some (.agg #[.int .i64 0, .int .u32 0, .int .i64 0, .int .i64 0]), 4, 32) := by kernel_rfl
theorem inf75 : (Try.prog.info? 75).map (fun i => (i.zero, i.size, i.bytes)) = some (some (.agg #[.int .u64 0, .int .u64 0, .int .u64 0, .int .u64 0, .bool false]), 5, 40) := by kernel_rfl
theorem below_frame {B w w' : World} {e : TypeId} {sz : Nat} {v : Value} {n base : Nat} {xs : List Value} (hB : B.heap.size ≤ base) (hw : RowKit.Below B.heap.size B w) (hown : w.ownsRow base e sz v n xs) (hg : w.grownBy w' v.ownBlock) : RowKit.Below B.heap.size B w' := below_grown hB hw hown hg
/-- the first append of a region: a whole row onto an empty row of one's own. -/
theorem step_app_first {P : Program} {w : World} {ops : Array Oper} {o : Oper} {a : Act} {K : Act → World → Prop} {Q : Exit → Act → World → Prop} {E : Prop} (hgd : o.guard = none) (s x : Operand) (t : TypeId)
    (ho : o.op = .call { callee := .builtin .append, args := #[s, x], argTypes := #[t, t] }) (B : World) (e : TypeId) (i : TypeInfo) (z : Value) (sz bytes : Nat) (ht : P.underlying t = some (.slice e)) (hi : P.info? e = some i) (hz : i.zero = some z)
    (hsize : i.size = sz) (hby : i.bytes = bytes) (hzs : z.cells.size = sz) (hsz : 0 < sz) (g : Nat) (hs : a.eval s = .slice (some ⟨g, 0, none⟩) 0 0) (so : Option Addr) (m c : Nat) (cv : Nat → Nat → Value) (hx : a.eval x = .slice so m c) (d : Tmp) (hd : o.dst = some d)
    (hg : w.heap[g]? = some (.cells #[] e (0, 0))) (hBg : B.heap.size ≤ g) (hw : RowKit.Below B.heap.size B w) (hrw : Rw w so m c sz cv) (h1 : ∀ i k, (cv i k).oneCell' = true) (hm : m ≤ maxLen) (hmb : m * bytes ≤ 140737488355328)
    (h : ∀ o' cap' w', w'.ownsRow B.heap.size e sz (.slice o' m cap') m (flatR cv sz m) → RowKit.Below B.heap.size B w' → (∀ b, b ≠ g → b < w.heap.size → w'.heap[b]? = w.heap[b]?) → w.heap.size ≤ w'.heap.size → K (a.put (some d) (.slice o' m cap')) w') :
    if Region.wanted o (yielded ops a.tmps) = true then Oper.wp P o a w K Q else E := by
  have hown : w.ownsRow B.heap.size e sz (.slice (some ⟨g, 0, none⟩) 0 0) 0 [] := own_empty hBg hg
  refine step_app_src hgd s x t ho B.heap.size e i z sz bytes ht hi hz hsize hby hzs hsz _ 0 [] hs so m c (flatR cv sz m) hx d hd hown (flatR_len _ _ _) (hrw.news hsz) (flatR_one h1) (by omega) (by rw [Nat.zero_add]; exact hmb) hw.size ?_
  intro o' cap' w' h2 h3
  rw [Nat.zero_add, List.nil_append] at h2
  rw [Nat.zero_add]
  exact h o' cap' w' h2 (below_grown (Nat.le_refl _) hw hown h3) (fun b hb hlt => h3.block b hlt (fun e => hb (by simpa [Value.ownBlock] using e))) h3.size
/-- the last: one element, laid in a block of its own, onto a row of one's own. -/
theorem step_app_last {P : Program} {w : World} {ops : Array Oper} {o : Oper} {a : Act} {K : Act → World → Prop} {Q : Exit → Act → World → Prop} {E : Prop} (hgd : o.guard = none) (s x : Operand) (t : TypeId)
    (ho : o.op = .call { callee := .builtin .append, args := #[s, x], argTypes := #[t, t] }) (B : World) (e : TypeId) (i : TypeInfo) (z : Value) (sz bytes : Nat) (ht : P.underlying t = some (.slice e)) (hi : P.info? e = some i) (hz : i.zero = some z)
    (hsize : i.size = sz) (hby : i.bytes = bytes) (hzs : z.cells.size = sz) (hsz : 0 < sz) (n : Nat) (so : Option Addr) (c : Nat) (xs : List Value) (hs : a.eval s = .slice so n c) (g : Nat) (hx : a.eval x = .slice (some ⟨g, 0, none⟩) 1 1) (cs : Array Value) (ty : TypeId) (fr : Nat × Nat) (d : Tmp) (hd : o.dst = some d)
    (hg : w.heap[g]? = some (.cells cs ty fr)) (hl : cs.size = sz) (h1 : ∀ u ∈ cs.toList, u.oneCell' = true) (hown : w.ownsRow B.heap.size e sz (.slice so n c) n xs) (hw : RowKit.Below B.heap.size B w) (hm : n + 1 ≤ maxLen) (hmb : (n + 1) * bytes ≤ 140737488355328)
    (h : ∀ o' cap' w', w'.ownsRow B.heap.size e sz (.slice o' (n + 1) cap') (n + 1) (xs ++ cs.toList) → RowKit.Below B.heap.size B w' → w.heap.size ≤ w'.heap.size → K (a.put (some d) (.slice o' (n + 1) cap')) w') :
    if Region.wanted o (yielded ops a.tmps) = true then Oper.wp P o a w K Q else E := by
  refine step_app_src hgd s x t ho B.heap.size e i z sz bytes ht hi hz hsize hby hzs hsz _ n xs hs (some ⟨g, 0, none⟩) 1 1 cs.toList hx d hd hown (by simp [hl]) (fun _ => ⟨_, rfl, fun j u hu => ?_⟩) h1 hm hmb hw.size ?_
  · rw [Addr.add_lit, Nat.zero_add, cell_b hg]
    simpa using hu
  · intro o' cap' w' h2 h3
    exact h o' cap' w' h2 (below_grown (Nat.le_refl _) hw hown h3) h3.size
theorem flat_snoc {cv cv' : Nat → Nat → Value} {sz n : Nat} {cs : Array Value} (hcs : cs.size = sz) (h1 : ∀ i k, i < n → k < sz → cv' i k = cv i k) (h2 : ∀ k, k < sz → cs[k]? = some (cv' n k)) : ∀ i k, i < n + 1 → k < sz → (flatR cv sz n ++ cs.toList)[i * sz + k]? = some (cv' i k) := by
  intro i k hi hk
  by_cases h : i < n
  · rw [List.getElem?_append_left, flatR_at cv h hk, h1 i k h hk]
    rw [flatR_len]
    have : (i + 1) * sz ≤ n * sz := Nat.mul_le_mul_right _ h
    rw [Nat.add_mul] at this
    omega
  · obtain rfl : i = n := by omega
    rw [List.getElem?_append_right (by rw [flatR_len]; omega), flatR_len, Nat.add_sub_cancel_left, ← h2 k hk]
    simp
theorem sc_at9 {w : World} {x o : Nat} {v : Value} {c : Array Value} {t : TypeId} {f : Nat × Nat} (h : w.heap[x]? = some (.cells c t f)) : (w.setCell ⟨x, o, none⟩ v).heap[x]? = some (.cells (c.setIfInBounds o v) t f) := by
  simp [World.setCell, Array.getElem?_modify, h]
theorem own_sc {W : World} {base : Nat} {e : TypeId} {sz n : Nat} {v : Value} {xs : List Value} (h : W.ownsRow base e sz v n xs) {b o : Nat} (hb : b < base) (u : Value) : (W.setCell ⟨b, o, none⟩ u).ownsRow base e sz v n xs := owns_of h (fun g hg => Below.heap_setCell W ⟨b, o, none⟩ u g (by have := (h.lt g hg).1; show g ≠ b; omega))
theorem own_fresh {W : World} {base g : Nat} {e : TypeId} {sz : Nat} {cs : Array Value} (hb : base ≤ g) (h : W.heap[g]? = some (.cells cs e (0, 0))) (hc : cs.size = sz) : W.ownsRow base e sz (.slice (some ⟨g, 0, none⟩) 1 1) 1 cs.toList :=
  ⟨by simp [hc], .inr ⟨g, 1, cs, rfl, hb, h, Nat.le_refl _, by decide, by simp [hc], by rw [Nat.one_mul, ← hc, ← Array.length_toList, List.take_length]⟩⟩
theorem heap4 (w : World) (a b c d : Obj) : ((((w.alloc a).alloc b).alloc c).alloc d).heap[w.heap.size]? = some a ∧ ((((w.alloc a).alloc b).alloc c).alloc d).heap[w.heap.size + 1]? = some b ∧ ((((w.alloc a).alloc b).alloc c).alloc d).heap[w.heap.size + 1 + 1]? = some c ∧ ((((w.alloc a).alloc b).alloc c).alloc d).heap[w.heap.size + 1 + 1 + 1]? = some d := by
  obtain ⟨h1, h2, h3⟩ := heap3 w a b c
  refine ⟨?_, ?_, ?_, ?_⟩
  · rw [al_lt' (by simp <;> omega)]; exact h1
  · rw [al_lt' (by simp <;> omega)]; exact h2
  · rw [al_lt' (by simp <;> omega)]; exact h3
  · have := heap_alloc_new (((w.alloc a).alloc b).alloc c) d
    rwa [World.size_alloc, World.size_alloc, World.size_alloc] at this
theorem flat_cons {cv cv' : Nat → Nat → Value} {sz n : Nat} {cs : Array Value} (hcs : cs.size = sz) (h1 : ∀ i k, i < n → k < sz → cv' (i + 1) k = cv i k) (h2 : ∀ k, k < sz → cs[k]? = some (cv' 0 k)) : ∀ i k, i < 1 + n → k < sz → (cs.toList ++ flatR cv sz n)[i * sz + k]? = some (cv' i k) := by
  intro i k hi hk
  cases i with
  | zero =>
    rw [Nat.zero_mul, Nat.zero_add, List.getElem?_append_left (by simp [hcs, hk]), ← h2 k hk]
    simp
  | succ i =>
    rw [List.getElem?_append_right (by simp [hcs, Nat.add_mul]; omega), h1 i k (by omega) hk]
    have : (i + 1) * sz + k - cs.toList.length = i * sz + k := by simp [hcs, Nat.add_mul]; omega
    rw [this]
    exact flatR_at cv (by omega) hk
theorem wrap_small {a : Int} (h0 : 0 ≤ a) (h1 : a < 256) : IntKind.i64.wrap a = a := by
  have h2 : a % 18446744073709551616 = a := Int.emod_eq_of_lt h0 (by omega)
  simp [IntKind.wrap, IntKind.signed, IntKind.bits, h2]
  omega
theorem heap_new2 (w : World) (a b : Obj) : ((w.alloc a).alloc b).heap[w.heap.size + 1]? = some b := by
  have := heap_alloc_new (w.alloc a) b
  rwa [World.size_alloc] at this
theorem heap_new1 (w : World) (a b : Obj) : ((w.alloc a).alloc b).heap[w.heap.size]? = some a := by
  rw [al_lt' (by simp)]; exact heap_alloc_new w a
end Go.Proofs.Ytgebehnlfihliaa
