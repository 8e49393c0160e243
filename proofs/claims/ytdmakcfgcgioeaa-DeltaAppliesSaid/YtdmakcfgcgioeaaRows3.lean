/- The operations of a region that builds slices, one law for each kind. -/
import Derived.Test.YtdmakcfgcgioeaaRows2
namespace Go.Proofs.Ytdmakcfgcgioeaa
open Go.RowKit Go.Sort
namespace Rws
section
variable {P : Program} {Q : Exit → Act → World → Prop} {ops : List Oper} {ks : List Mk} {w0 : World} {a0 : Act} {ix : Nat}
theorem con_ne {ks : List Mk} {i : Nat} (h : (ks.map Mk.tag).all (fun t => t.1 != 1 || t.2.1 != i + 1) = true) : ∀ j, (kOf ks j).con ≠ some i := by
  intro j e
  unfold kOf at e
  cases hk : ks[j]? with
  | none => rw [hk] at e; cases e
  | some k =>
    rw [hk] at e
    have := List.all_eq_true.1 h k.tag (List.mem_map.2 ⟨k, List.mem_of_getElem? hk, rfl⟩)
    cases k with
    | q v => cases e
    | cp v => cases e
    | row e1 size n xs c s =>
      have : c = some i := e
      subst this
      simp [Mk.tag, opt] at *
theorem eval_of {a : Act} {i : Nat} {v : Value} (h : a.tmps[i]? = some v) : a.eval (.tmp i) = v := by
  simp [Act.eval, h]
/-- an operation that only yields a value -/
theorem obl_q {o : Oper} {v : Value} (h : ∀ (a : Act) (W : World), RowKit.Below w0.heap.size w0 W → Left ops ix a0 a → Ahead ops ks o a → (execOp a.eval o).run P W = .ok (.value v) W) : Obl P Q ops ks w0 a0 ix o (.q v) := by
  intro a W hb h0 hd X hX
  unfold Oper.wp
  rw [h a W hb h0 hd]
  exact hX W (Below.refl _ _)
theorem obl_move {dst : Option Tmp} {i : Nat} {v : Value} {ty : TypeId} {pos : String} {after : Array Edge} {guard : Option (Nat × Bool)} (hd : leftB ops ix i = true) (hp : a0.tmps[i]? = some v) :
    Obl P Q ops ks w0 a0 ix { dst, op := .move (.tmp i), type := ty, pos, after, guard } (.q v) := by
  refine obl_q (fun a W hb h0 _ => ?_)
  show (do pure (Next.value (a.eval (.tmp i))) : Sem Next).run P W = _
  rw [eval_of ((h0 i hd).trans hp)]
  rfl
theorem obl_cp {dst : Option Tmp} {i j : Nat} {ty : TypeId} {pos : String} {after : Array Edge} {guard : Option (Nat × Bool)} (hd : (ops[j]?).bind (·.dst) = some i) :
    Obl P Q ops ks w0 a0 ix { dst, op := .assign (.tmp i), type := ty, pos, after, guard } (.cp j) := by
  refine ⟨i, hd, fun a W v hv X hX => ?_⟩
  unfold Oper.wp
  have : (execOp a.eval { dst, op := .assign (.tmp i), type := ty, pos, after, guard }).run P W = .ok (.value v) W := by
    show (do pure (Next.value (a.eval (.tmp i))) : Sem Next).run P W = _
    rw [eval_of hv]
    rfl
  rw [this]
  exact hX
/-- an empty literal -/
theorem obl_lit0 {dst : Option Tmp} {t e : TypeId} {ty : TypeId} {pos : String} {after : Array Edge} {guard : Option (Nat × Bool)} (ht : P.underlying t = some (.slice e)) {size : Nat} (hi : (P.info? e).map (·.size) = some size) :
    Obl P Q ops ks w0 a0 ix { dst, op := .buildSlice t 0 #[], type := ty, pos, after, guard } (.row e size 0 [] none none) := by
  intro a W νc νs hb h0 hd hc hs X hX
  unfold Oper.wp
  obtain ⟨i, hi1, hi2⟩ := Option.map_eq_some_iff.1 hi
  have : (execOp a.eval { dst, op := .buildSlice t 0 #[], type := ty, pos, after, guard }).run P W = .ok (.value (.slice (some ⟨W.heap.size, 0, none⟩) 0 0)) (W.alloc (.cells #[] e)) := by
    simp [go_sem, run_underlying ht, sizeOf, typeInfo, hi1, Instr.fill]
  rw [this]
  refine hX _ _ ⟨⟨by simp, .inr ⟨W.heap.size, 0, #[], rfl, hb.size, heap_alloc_new W _, Nat.le_refl _, by decide, by simp, by simp⟩⟩, rfl⟩ (World.grownBy_alloc _ _ _) (fun g hg => ?_)
  simp [Value.ownBlock] at hg
  exact .inr (by omega)
/-- a literal of one element that is a struct of two cells -/
theorem obl_lit2 {dst : Option Tmp} {t e : TypeId} {j d : Nat} {x y z1 z2 : Value} {ty : TypeId} {pos : String} {after : Array Edge} {guard : Option (Nat × Bool)} (ht : P.underlying t = some (.slice e))
    (hi : (P.info? e).map (fun i => (i.size, i.zero)) = some (2, some (.agg #[z1, z2])))
    (hj : ks[j]? = some (.q (.agg #[x, y]))) (hdj : (ops[j]?).bind (·.dst) = some d) (hbj : (after.any fun e => Region.binds .any e && e.on == j) = true) :
    Obl P Q ops ks w0 a0 ix { dst, op := .buildSlice t 1 #[(0, .tmp d)], type := ty, pos, after, guard } (.row e 2 1 [x, y] none none) := by
  intro a W νc νs hb h0 hd hc hs X hX
  unfold Oper.wp
  obtain ⟨i, hi1, hi2⟩ := Option.map_eq_some_iff.1 hi
  simp only [Prod.mk.injEq] at hi2
  have hv := hd j d _ hbj hdj hj
  have : (execOp a.eval { dst, op := .buildSlice t 1 #[(0, .tmp d)], type := ty, pos, after, guard }).run P W = .ok (.value (.slice (some ⟨W.heap.size, 0, none⟩) 1 1)) (W.alloc (.cells #[x, y] e)) := by
    simp [go_sem, run_underlying ht, sizeOf, zeroValue, typeInfo, hi1, hi2.1, hi2.2, Instr.fill, hv]
  rw [this]
  refine hX _ _ ⟨⟨by simp, .inr ⟨W.heap.size, 1, #[x, y], rfl, hb.size, heap_alloc_new W _, Nat.le_refl _, by decide, by simp, by simp⟩⟩, rfl⟩ (World.grownBy_alloc _ _ _) (fun g hg => ?_)
  simp [Value.ownBlock] at hg
  exact .inr (by omega)
/-- a literal of one element of one cell -/
theorem obl_lit1 {dst : Option Tmp} {t e : TypeId} {j d : Nat} {q1 : IntKind} {x1 y1 : Int} {ty : TypeId} {pos : String} {after : Array Edge} {guard : Option (Nat × Bool)} (ht : P.underlying t = some (.slice e))
    (hi : (P.info? e).map (fun i => (i.size, i.zero)) = some (1, some (.int q1 y1)))
    (hj : ks[j]? = some (.q (.int q1 x1))) (hdj : (ops[j]?).bind (·.dst) = some d) (hbj : (after.any fun e => Region.binds .any e && e.on == j) = true) :
    Obl P Q ops ks w0 a0 ix { dst, op := .buildSlice t 1 #[(0, .tmp d)], type := ty, pos, after, guard } (.row e 1 1 [.int q1 x1] none none) := by
  intro a W νc νs hb h0 hd hc hs X hX
  unfold Oper.wp
  obtain ⟨i, hi1, hi2⟩ := Option.map_eq_some_iff.1 hi
  simp only [Prod.mk.injEq] at hi2
  have hv := hd j d _ hbj hdj hj
  have : (execOp a.eval { dst, op := .buildSlice t 1 #[(0, .tmp d)], type := ty, pos, after, guard }).run P W = .ok (.value (.slice (some ⟨W.heap.size, 0, none⟩) 1 1)) (W.alloc (.cells #[.int q1 x1] e)) := by
    simp [go_sem, run_underlying ht, sizeOf, zeroValue, typeInfo, hi1, hi2.1, hi2.2, Instr.fill, hv]
  rw [this]
  refine hX _ _ ⟨⟨by simp, .inr ⟨W.heap.size, 1, #[.int q1 x1], rfl, hb.size, heap_alloc_new W _, Nat.le_refl _, by decide, by simp, by simp⟩⟩, rfl⟩ (World.grownBy_alloc _ _ _) (fun g hg => ?_)
  simp [Value.ownBlock] at hg
  exact .inr (by omega)
/-- append of known cells onto a row -/
theorem obl_app {dst : Option Tmp} {t e : TypeId} {c dc dx n m cap size bytes : Nat} {xs news : List Value} {ad : Addr} {ty : TypeId} {pos : String} {after : Array Edge} {guard : Option (Nat × Bool)} {z : Value} {c1 s1 : Option Nat}
    (ht : P.underlying t = some (.slice e)) (hi : (P.info? e).map (fun i => (i.zero, i.size, i.bytes)) = some (some z, size, bytes)) (hzs : z.cells.size = size) (hsz : 0 < size)
    (hc : ks[c]? = some (.row e size n xs c1 s1)) (hdc : (ops[c]?).bind (·.dst) = some dc)
    (hx : ∀ a : Act, Left ops ix a0 a → (∀ (j d : Nat) (v' : Value), (after.any fun e => Region.binds .any e && e.on == j) = true → (ops[j]?).bind (·.dst) = some d → ks[j]? = some (.q v') → a.tmps[d]? = some v') → a.tmps[dx]? = some (.slice (some ad) m cap))
    (hl : news.length = m * size) (hnews : ∀ W : World, RowKit.Below w0.heap.size w0 W → ∀ j u, news[j]? = some u → W.cell? (ad.add j) = some u) (h1 : ∀ u ∈ news, u.oneCell' = true)
    (h63 : n + m ≤ maxLen) (hbytes : (n + m) * bytes ≤ 140737488355328) :
    Obl P Q ops ks w0 a0 ix { dst, op := .call { callee := .builtin .append, args := #[.tmp dc, .tmp dx], argTypes := #[t, t] }, type := ty, pos, after, guard } (.row e size (n + m) (xs ++ news) (some c) none) := by
  intro a W νc νs hb h0 hd hcr hs X hX
  obtain ⟨i, hi1, hz0, hz1, hz2⟩ := info_parts hi
  obtain ⟨hrow, hslot⟩ := hcr c rfl
  obtain ⟨hown, hsome⟩ := hrow _ _ _ _ _ _ hc
  obtain ⟨v', w', hr, r2, r3, r4, r5⟩ := run_append_own_at (P := P) W w0.heap.size t ty e i z size bytes ht hi1 hz0 hz1 hz2 hzs hsz νc n xs hown ad m cap news hl (hnews W hb) h1 h63 hbytes hb.size
  unfold Oper.wp execOp
  simp only [resolve, invoke, builtin, Sem.run_bind, Sem.run_pure, Result.andThen_ok, List.map_toArray, List.map_cons, List.map_nil, eval_of (hslot dc hdc), eval_of (hx a h0 hd), hr]
  refine hX v' w' ⟨r2, by
    rcases r5 with h5 | h5
    · rw [h5]; exact hsome
    · rw [h5]; rfl⟩ r3 (fun g hg => ?_)
  rcases r5 with r5 | r5
  · exact .inl ⟨rfl, by rw [← r5]; exact hg⟩
  · rw [hg] at r5
    have : g = W.heap.size := by simpa using r5
    exact .inr (by omega)
/-- append of a literal's row onto a row -/
theorem obl_app_lit {dst : Option Tmp} {t e : TypeId} {c s dc dx n m size bytes : Nat} {xs news : List Value} {ty : TypeId} {pos : String} {after : Array Edge} {guard : Option (Nat × Bool)} {z : Value} {c1 s1 c2 s2 : Option Nat}
    (ht : P.underlying t = some (.slice e)) (hi : (P.info? e).map (fun i => (i.zero, i.size, i.bytes)) = some (some z, size, bytes)) (hzs : z.cells.size = size) (hsz : 0 < size)
    (hc : ks[c]? = some (.row e size n xs c1 s1)) (hdc : (ops[c]?).bind (·.dst) = some dc)
    (hsr : ks[s]? = some (.row e size m news c2 s2)) (hds : (ops[s]?).bind (·.dst) = some dx) (hm : 0 < m)
    (h1 : ∀ u ∈ news, u.oneCell' = true)
    (h63 : n + m ≤ maxLen) (hbytes : (n + m) * bytes ≤ 140737488355328) :
    Obl P Q ops ks w0 a0 ix { dst, op := .call { callee := .builtin .append, args := #[.tmp dc, .tmp dx], argTypes := #[t, t] }, type := ty, pos, after, guard } (.row e size (n + m) (xs ++ news) (some c) (some s)) := by
  intro a W νc νs hb h0 hd hcr hs X hX
  obtain ⟨i, hi1, hz0, hz1, hz2⟩ := info_parts hi
  obtain ⟨hrow, hslot⟩ := hcr c rfl
  obtain ⟨hown, hsome⟩ := hrow _ _ _ _ _ _ hc
  obtain ⟨hrow2, hslot2⟩ := hs s rfl
  obtain ⟨hown2, hsome2⟩ := hrow2 _ _ _ _ _ _ hsr
  obtain ⟨g2, cap2, hν⟩ : ∃ g cap, νs = .slice (some ⟨g, 0, none⟩) m cap := by
    rcases hown2.2 with ⟨_, e2⟩ | ⟨g', cap, cur, e1, _⟩
    · omega
    · exact ⟨_, _, e1⟩
  obtain ⟨v', w', hr, r2, r3, r4, r5⟩ := run_append_own_at (P := P) W w0.heap.size t ty e i z size bytes ht hi1 hz0 hz1 hz2 hzs hsz νc n xs hown ⟨g2, 0, none⟩ m cap2 news hown2.1 (hown2.cells (by rw [hν]; rfl)) h1 h63 hbytes hb.size
  unfold Oper.wp execOp
  simp only [resolve, invoke, builtin, Sem.run_bind, Sem.run_pure, Result.andThen_ok, List.map_toArray, List.map_cons, List.map_nil, eval_of (hslot dc hdc), eval_of (hslot2 dx hds), hν, hr]
  refine hX v' w' ⟨r2, by
    rcases r5 with h5 | h5
    · rw [h5]; exact hsome
    · rw [h5]; rfl⟩ r3 (fun g hg => ?_)
  rcases r5 with r5 | r5
  · exact .inl ⟨rfl, by rw [← r5]; exact hg⟩
  · rw [hg] at r5
    have : g = W.heap.size := by simpa using r5
    exact .inr (by omega)
end
end Rws
end Go.Proofs.Ytdmakcfgcgioeaa
