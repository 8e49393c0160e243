/- Delta: copy, clear, append of zero values, on rows of one's own. -/
import Derived.Test.YtdmakcfgcgioeaaDOwn
import Derived.Lib.AppendZerosOnto
import Derived.Lib.Overlaps
namespace Go.Proofs.Ytdmakcfgcgioeaa
open Go.RowKit Go.Maps
set_option linter.unusedSimpArgs false
set_option linter.unusedVariables false
set_option maxRecDepth 100000
def spl (cur : List Value) (off : Nat) (cs : List Value) : List Value := cur.take off ++ cs ++ cur.drop (off + cs.length)
theorem spl_len (cur : List Value) (off : Nat) (cs : List Value) (h : off + cs.length ≤ cur.length) : (spl cur off cs).length = cur.length := by simp [spl]; omega
section
variable {P : Program} {w : World}
theorem run_copy_rows (dT sT ty elem : TypeId) (i : TypeInfo) (hu : P.underlying dT = some (.slice elem)) (hi : P.info? elem = some i) (g o dLen dCap : Nat) (a : Addr) (sLen sCap : Nat) (cur : Array Value) (t : TypeId) (cs : List Value)
    (hg : w.heap[g]? = some (.cells cur t (0, 0))) (hn : cs.length = Nat.min sLen dLen * i.size) (hsrc : ∀ j v, cs[j]? = some v → w.cell? (a.add j) = some v) (hfit : o + cs.length ≤ cur.size) (h1 : ∀ v ∈ cs, v.oneCell' = true) :
    (Builtin.copy_ #[dT, sT] ty #[.slice (some ⟨g, o, none⟩) dLen dCap, .slice (some a) sLen sCap]).run P w = .ok (goInt (Nat.min sLen dLen)) (w.setRow g (spl cur.toList o cs).toArray) := by
  have hl := run_firstCells_some (P := P) w i.size (Nat.min sLen dLen) a sLen sCap cs hn hsrc
  have hst := run_storeCells_at P g o t cs 0 cur w hg (by simpa using hfit) h1
  simp only [Nat.add_zero] at hst
  unfold spl
  simp [Builtin.copy_, run_underlying hu, Builtin.lenOf, sizeOf, typeInfo, hi, hl, hst]
theorem run_clear_rows (t e ty : TypeId) (i : TypeInfo) (z : Value) (hu : P.underlying t = some (.slice e)) (hi : P.info? e = some i) (hz : i.zero = some z) (g o n c : Nat) (cur : Array Value) (t' : TypeId) (hg : w.heap[g]? = some (.cells cur t' (0, 0)))
    (hn : 0 < n) (hfit : o + n * z.cells.size ≤ cur.size) (h1 : ∀ u ∈ (Builtin.zeroCells z.cells n).toList, u.oneCell' = true) :
    (Builtin.clear_ #[t] ty #[.slice (some ⟨g, o, none⟩) n c]).run P w = .ok (.tuple #[]) (w.setRow g (spl cur.toList o (Builtin.zeroCells z.cells n).toList).toArray) := by
  have hzl : (Builtin.zeroCells z.cells n).toList.length = n * z.cells.size := by rw [Array.length_toList, size_zeroCells]
  have hst := run_storeCells_at P g o t' (Builtin.zeroCells z.cells n).toList 0 cur w hg (by rw [hzl]; simpa using hfit) h1
  simp only [Nat.add_zero] at hst
  unfold spl
  obtain ⟨m, rfl⟩ : ∃ m, n = m + 1 := ⟨n - 1, by omega⟩
  simp [Builtin.clear_, run_underlying hu, zeroValue, typeInfo, hi, hz, hst]
theorem wpList_copy_run {ops : Array Oper} {rest : List Oper} {o : Oper} {a : Act} {Q : Exit → Act → World → Prop} (hgd : o.guard = none) (d s : Operand) (t t' : TypeId)
    (ho : o.op = .call { callee := .builtin .copy, args := #[d, s], argTypes := #[t, t'] }) (v u : Value) (hd : a.eval d = v) (hs : a.eval s = u) {v' : Value} {w' : World}
    (hr : (Builtin.copy_ #[t, t'] o.type #[v, u]).run P w = .ok v' w') (h : wpList P ops Q rest (a.put o.dst v') w') : wpList P ops Q (o :: rest) a w := by
  refine wpList_plain hgd fun K hK => ?_
  unfold Oper.wp execOp
  simp only [ho, resolve, invoke, builtin, Sem.run_bind, Sem.run_pure, Result.andThen_ok, List.map_toArray, List.map_cons, List.map_nil, hd, hs, hr]
  exact hK _ _ h
theorem step_copy_run {ops : Array Oper} {o : Oper} {a : Act} {K : Act → World → Prop} {Q : Exit → Act → World → Prop} {E : Prop} (hgd : o.guard = none) (d s : Operand) (t t' : TypeId)
    (ho : o.op = .call { callee := .builtin .copy, args := #[d, s], argTypes := #[t, t'] }) (v u : Value) (hd : a.eval d = v) (hs : a.eval s = u) (dt : Tmp) (hdt : o.dst = some dt) {v' : Value} {w' : World}
    (hr : (Builtin.copy_ #[t, t'] o.type #[v, u]).run P w = .ok v' w') (h : K (a.put (some dt) v') w') : if Region.wanted o (yielded ops a.tmps) = true then Oper.wp P o a w K Q else E := by
  have hw : Region.wanted o (yielded ops a.tmps) = true := by simp [Region.wanted, hgd]
  rw [if_pos hw]
  unfold Oper.wp execOp
  simp only [ho, resolve, invoke, builtin, Sem.run_bind, Sem.run_pure, Result.andThen_ok, List.map_toArray, List.map_cons, List.map_nil, hd, hs, hr]
  show K (a.put o.dst _) _
  rw [hdt]
  exact h
theorem wpList_clear_run {ops : Array Oper} {rest : List Oper} {o : Oper} {a : Act} {Q : Exit → Act → World → Prop} (hgd : o.guard = none) (s : Operand) (t : TypeId)
    (ho : o.op = .call { callee := .builtin .clear, args := #[s], argTypes := #[t] }) (v : Value) (hs : a.eval s = v) {v' : Value} {w' : World}
    (hr : (Builtin.clear_ #[t] o.type #[v]).run P w = .ok v' w') (h : wpList P ops Q rest (a.put o.dst v') w') : wpList P ops Q (o :: rest) a w := by
  refine wpList_plain hgd fun K hK => ?_
  unfold Oper.wp execOp
  simp only [ho, resolve, invoke, builtin, Sem.run_bind, Sem.run_pure, Result.andThen_ok, List.map_toArray, List.map_cons, List.map_nil, hs, hr]
  exact hK _ _ h
end
section
variable {W : World} {B : Nat → Prop} {e : TypeId} {sz n : Nat} {xs : List Value} {o : Option Addr} {c : Nat}
/-- what stands ahead. -/
theorem Ow.pre (h : Ow W B e sz (.slice o n c) n xs) {i : Nat} (hi : i ≤ n) : Ow W B e sz (.slice o i c) i (xs.take (i * sz)) := by
  have hm : i * sz ≤ n * sz := Nat.mul_le_mul_right _ hi
  refine ⟨by rw [List.length_take, h.1]; omega, ?_⟩
  rcases h.2 with ⟨h1, h2⟩ | ⟨g, c2, cur, h1, h2, h3, h4, h5, h6, h7⟩
  · subst h2
    obtain rfl : i = 0 := by omega
    exact .inl ⟨h1, rfl⟩
  · simp at h1
    obtain ⟨rfl, rfl⟩ := h1
    exact .inr ⟨g, c, cur, rfl, h2, h3, Nat.le_trans hi h4, h5, h6, by rw [← h7, List.take_take, Nat.min_eq_left hm]⟩
/-- the block of a row that is not empty. -/
theorem Ow.blk (h : Ow W B e sz (.slice o n c) n xs) (hn : 0 < n) : ∃ (g : Nat) (cur : Array Value), o = some ⟨g, 0, none⟩ ∧ B g ∧ W.heap[g]? = some (.cells cur e (0, 0)) ∧ n ≤ c ∧ c ≤ maxLen ∧ c * sz ≤ cur.size ∧ cur.toList.take (n * sz) = xs := by
  rcases h.2 with ⟨h1, h2⟩ | ⟨g, c2, cur, h1, h2, h3, h4, h5, h6, h7⟩
  · omega
  · simp at h1
    obtain ⟨rfl, rfl⟩ := h1
    exact ⟨g, cur, rfl, h2, h3, h4, h5, h6, h7⟩
/-- cells behind the row's end turn: the row stays. -/
theorem Ow.tail (h : Ow W B e sz (.slice o n c) n xs) {g : Nat} {cur : Array Value} (ho : o = some ⟨g, 0, none⟩) (hg : W.heap[g]? = some (.cells cur e (0, 0))) {off : Nat} {cs : List Value} (h1 : n * sz ≤ off) (h2 : off + cs.length ≤ cur.size) :
    Ow (W.setRow g (spl cur.toList off cs).toArray) B e sz (.slice o n c) n xs := by
  refine ⟨h.1, ?_⟩
  rcases h.2 with ⟨e1, e2⟩ | ⟨g', c2, cur', e1, hb, hg', h4, h5, h6, h7⟩
  · simp [ho] at e1
  · simp [ho] at e1
    obtain ⟨rfl, rfl⟩ := e1
    rw [hg] at hg'
    obtain rfl : cur = cur' := by simpa using hg'
    refine .inr ⟨g, c, _, by rw [ho], hb, setRow_heap W g cur _ e _ hg, h4, h5, ?_, ?_⟩
    · simp only [List.size_toArray]
      rw [spl_len _ _ _ (by simpa using h2)]
      simpa using h6
    · rw [← h7]
      simp only [List.toList_toArray]
      unfold spl
      rw [List.append_assoc, List.take_append_of_le_length (by simp; have := Nat.mul_le_mul_right sz h4; omega), List.take_take, Nat.min_eq_left h1]
end
theorem grown_drew {w w1 : World} {r : Option Nat} (h : w.drew.grownBy w1 r) : w.grownBy w1 r := ⟨h.os, h.tape, h.output, h.size, h.block⟩
theorem grown_setRow {w : World} {g : Nat} {cs : Array Value} {v : Value} (h : v.ownBlock = some g) : w.grownBy (w.setRow g cs) v.ownBlock :=
  ⟨rfl, rfl, rfl, by simp [World.setRow], fun k _ hk => setRow_other w g k _ (fun e => hk (by rw [h, e]))⟩
theorem step_app_owN {P : Program} {w : World} {ops : Array Oper} {o : Oper} {a : Act} {K : Act → World → Prop} {Q : Exit → Act → World → Prop} {E : Prop} (hgd : o.guard = none) (s x : Operand) (t : TypeId)
    (ho : o.op = .call { callee := .builtin .append, args := #[s, x], argTypes := #[t, t] }) (B : Nat → Prop) (e : TypeId) (i : TypeInfo) (z : Value) (sz bytes : Nat) (ht : P.underlying t = some (.slice e)) (hi : P.info? e = some i) (hz : i.zero = some z)
    (hsize : i.size = sz) (hby : i.bytes = bytes) (hzs : z.cells.size = sz) (hsz : 0 < sz) (v : Value) (n : Nat) (xs : List Value) (hs : a.eval s = v) (so : Option Addr) (m c N : Nat) (hN : n + m = N) (news : List Value) (hx : a.eval x = .slice so m c) (d : Tmp) (hd : o.dst = some d)
    (hown : Ow w B e sz v n xs) (hl : news.length = m * sz) (hnews : 0 < m → ∃ ad, so = some ad ∧ ∀ (j : Nat) (u : Value), news[j]? = some u → w.cell? (ad.add j) = some u) (h1 : ∀ u ∈ news, u.oneCell' = true)
    (h63 : N ≤ maxLen) (hbytes : N * bytes ≤ 140737488355328) (hB : B w.heap.size)
    (h : ∀ o' cap' w', Ow w' B e sz (.slice o' N cap') N (xs ++ news) → w.grownBy w' v.ownBlock → ((Value.slice o' N cap').ownBlock = v.ownBlock ∨ (Value.slice o' N cap').ownBlock = some w.heap.size) → (∀ o c, v = .slice o n c → N ≤ c → o' = o ∧ cap' = c) → K (a.put (some d) (.slice o' N cap')) w') :
    if Region.wanted o (yielded ops a.tmps) = true then Oper.wp P o a w K Q else E := by
  subst hN
  exact step_app_ow hgd s x t ho B e i z sz bytes ht hi hz hsize hby hzs hsz v n xs hs so m c news hx d hd hown hl hnews h1 h63 hbytes hB h
theorem flat_take {α : Type} {ce : α → List Value} {sz : Nat} (h : ∀ x, (ce x).length = sz) (l : List α) (i : Nat) (hi : i ≤ l.length) : (l.take i).flatMap ce = (l.flatMap ce).take (i * sz) := by
  have e : l.flatMap ce = (l.take i).flatMap ce ++ (l.drop i).flatMap ce := by rw [← List.flatMap_append, List.take_append_drop]
  have hl : ((l.take i).flatMap ce).length = i * sz := by rw [flat_len h, List.length_take, Nat.min_eq_left hi]
  rw [e, ← hl, List.take_left]
theorem flat_drop {α : Type} {ce : α → List Value} {sz : Nat} (h : ∀ x, (ce x).length = sz) (l : List α) (i : Nat) (hi : i ≤ l.length) : (l.drop i).flatMap ce = (l.flatMap ce).drop (i * sz) := by
  have e : l.flatMap ce = (l.take i).flatMap ce ++ (l.drop i).flatMap ce := by rw [← List.flatMap_append, List.take_append_drop]
  have hl : ((l.take i).flatMap ce).length = i * sz := by rw [flat_len h, List.length_take, Nat.min_eq_left hi]
  rw [e, ← hl, List.drop_left]
theorem Ow.blk2 {W : World} {B : Nat → Prop} {e : TypeId} {sz n c : Nat} {xs : List Value} {g : Nat} (h : Ow W B e sz (.slice (some ⟨g, 0, .none⟩) n c) n xs) : ∃ (cur : Array Value), B g ∧ W.heap[g]? = some (.cells cur e (0, 0)) ∧ n ≤ c ∧ c ≤ maxLen ∧ c * sz ≤ cur.size ∧ cur.toList.take (n * sz) = xs := by
  rcases h.2 with ⟨h1, h2⟩ | ⟨g', c2, cur, h1, h2, h3, h4, h5, h6, h7⟩
  · simp at h1
  · simp at h1
    obtain ⟨rfl, rfl⟩ := h1
    exact ⟨cur, h2, h3, h4, h5, h6, h7⟩
end Go.Proofs.Ytdmakcfgcgioeaa
