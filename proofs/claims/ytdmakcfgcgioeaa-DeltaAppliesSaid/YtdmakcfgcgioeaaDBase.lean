/- Delta: rows in memory; rows of one's own; append of whatever row. -/
import Derived.Test.YtdmakcfgcgioeaaProg
import Derived.WalkKit
import Derived.WalkLawsBesides
import Derived.Lib.Hide
import Derived.Deep.QuietTactic
import Derived.BigQuiet
import Derived.Lib.QuietBelow
import Derived.Deep.DeepCutAuto
import Derived.Deep.CutBlock
import Derived.BigRegion
import Derived.Maps.AppendAt
import Derived.Maps.OwnSet
import Derived.Deep.Upon
import Derived.Deep.RegionHeldLaw
namespace Go.Proofs.Ytdmakcfgcgioeaa
open Go.RowKit Go.Maps
set_option linter.unusedSimpArgs false
set_option linter.unusedVariables false
set_option maxRecDepth 100000
theorem cell_below {W W' : World} (hb : RowKit.Below W.heap.size W W') {a : Addr} {v : Value} (h : W.cell? a = some v) : W'.cell? a = some v := by
  rw [World.cell?_of_block (w := W) (hb.block a.block (World.block_lt_of_cell? W a h))]
  exact h
theorem below2 (w : World) (x y : Obj) : RowKit.Below w.heap.size w ((w.alloc x).alloc y) := ((Below.refl _ _).alloc (Nat.le_refl _) _).alloc (by rw [World.size_alloc]; omega) _
theorem wp_world {P : Program} {c : Code} {Q : Exit → Act → World → Prop} {a : Act} {w : World} (S : World → Prop) (h : S w) (H : ∀ W, S W → c.wp P Q a W) : c.wp P Q a w := H w h
theorem reg_c {W : World} {a : Addr} {v : Value} (h : W.cell? a = some v) : ∀ p : Regrown, (Sort.grow (redrawn W p.d) p.os).cell? a = some v := fun p => by
  rw [World.cell?_of_block (w := W) ((below_regrown W p.d p.os).block a.block (World.block_lt_of_cell? W a h))]
  exact h
theorem cell_b {w : World} {b o : Nat} {c : Array Value} {t : TypeId} {f : Nat × Nat} (h : w.heap[b]? = some (.cells c t f)) : w.cell? ⟨b, o, none⟩ = c[o]? := by
  simp [World.cell?, h]
theorem al_lt' {w : World} {o : Obj} {n : Nat} (hn : n < w.heap.size) : (w.alloc o).heap[n]? = w.heap[n]? := Below.heap_alloc w o n hn
theorem below_al {W V : World} (h : RowKit.Below W.heap.size W V) (o : Obj) : RowKit.Below W.heap.size W (V.alloc o) := h.alloc h.size o
theorem below_dr {W V : World} (h : RowKit.Below W.heap.size W V) : RowKit.Below W.heap.size W V.drew := RowKit.Below.drew h
theorem below_st {W V V' : World} (h1 : RowKit.Below W.heap.size W V) (h2 : RowKit.Below V.heap.size V V') : RowKit.Below W.heap.size W V' := h1.trans (h2.mono h1.size)
/-- n elements, whose cells are xs, lie where a slice says. -/
def Rd (W : World) (o : Option Addr) (n cap : Nat) (xs : List Value) : Prop :=
  n ≤ cap ∧ cap ≤ maxLen ∧ ∃ b off, (0 < n → o = some ⟨b, off, none⟩) ∧ ∀ j u, xs[j]? = some u → W.cell? ⟨b, off + j, none⟩ = some u
theorem Rd.below {W W' : World} {o : Option Addr} {n cap : Nat} {xs : List Value} (h : Rd W o n cap xs) (hb : RowKit.Below W.heap.size W W') : Rd W' o n cap xs := by
  obtain ⟨h1, h2, b, off, h3, h4⟩ := h
  exact ⟨h1, h2, b, off, h3, fun j u hu => cell_below hb (h4 j u hu)⟩
theorem Rd.news {W : World} {o : Option Addr} {n cap : Nat} {xs : List Value} (h : Rd W o n cap xs) : 0 < n → ∃ ad, o = some ad ∧ ∀ (j : Nat) (u : Value), xs[j]? = some u → W.cell? (ad.add j) = some u := by
  intro hn
  obtain ⟨h1, h2, b, off, h3, h4⟩ := h
  exact ⟨_, h3 hn, fun j u hu => by rw [Addr.add_lit]; exact h4 j u hu⟩
/-- a row of one's own, in a block of B. -/
def Ow (W : World) (B : Nat → Prop) (e : TypeId) (sz : Nat) (v : Value) (n : Nat) (xs : List Value) : Prop :=
  xs.length = n * sz ∧ ((v = .slice none 0 0 ∧ n = 0) ∨ ∃ (g cap : Nat) (cur : Array Value), v = .slice (some ⟨g, 0, none⟩) n cap ∧ B g ∧ W.heap[g]? = some (.cells cur e (0, 0)) ∧ n ≤ cap ∧ cap ≤ maxLen ∧ cap * sz ≤ cur.size ∧ cur.toList.take (n * sz) = xs)
section
variable {W W' : World} {B : Nat → Prop} {e : TypeId} {sz n : Nat} {v : Value} {xs : List Value}
theorem Ow.form (h : Ow W B e sz v n xs) : ∃ o cap, v = .slice o n cap := by
  rcases h.2 with ⟨rfl, rfl⟩ | ⟨g, cap, cur, rfl, _⟩
  · exact ⟨none, 0, rfl⟩
  · exact ⟨_, _, rfl⟩
theorem Ow.keep (h : Ow W B e sz v n xs) (hh : ∀ g, v.ownBlock = some g → W'.heap[g]? = W.heap[g]?) : Ow W' B e sz v n xs := by
  refine ⟨h.1, ?_⟩
  rcases h.2 with hn | ⟨g, cap, cur, rfl, hb, hg, rest⟩
  · exact .inl hn
  · exact .inr ⟨g, cap, cur, rfl, hb, (hh g rfl).trans hg, rest⟩
theorem Ow.mono {B' : Nat → Prop} (h : Ow W B e sz v n xs) (hB : ∀ g, v.ownBlock = some g → B g → B' g) : Ow W B' e sz v n xs := by
  refine ⟨h.1, ?_⟩
  rcases h.2 with hn | ⟨g, cap, cur, rfl, hb, rest⟩
  · exact .inl hn
  · exact .inr ⟨g, cap, cur, rfl, hB g rfl hb, rest⟩
theorem Ow.lt (h : Ow W B e sz v n xs) {g : Nat} (hg : v.ownBlock = some g) : B g ∧ g < W.heap.size := by
  rcases h.2 with ⟨rfl, rfl⟩ | ⟨g', cap, cur, rfl, hb, hh, _⟩
  · cases hg
  · obtain rfl : g' = g := by simpa [Value.ownBlock] using hg
    exact ⟨hb, (Array.getElem?_eq_some_iff.1 hh).1⟩
theorem Ow.below (h : Ow W B e sz v n xs) (hb : RowKit.Below W.heap.size W W') : Ow W' B e sz v n xs := h.keep fun g hg => hb.block g (h.lt hg).2
theorem Ow.rd {o : Option Addr} {cap : Nat} (h : Ow W B e sz (.slice o n cap) n xs) : Rd W o n cap xs := by
  rcases h.2 with ⟨h1, h2⟩ | ⟨g, c2, cur, h1, h2, h3, h4, h5, h6, h7⟩
  · cases h1
    have hx : xs = [] := List.eq_nil_of_length_eq_zero (by simpa using h.1)
    subst hx
    exact ⟨Nat.le_refl _, Nat.zero_le _, 0, 0, fun h => by omega, fun j u hu => by simp at hu⟩
  · cases h1
    refine ⟨h4, h5, g, 0, fun _ => rfl, fun j u hu => ?_⟩
    rw [cell_b h3, Nat.zero_add]
    have hj := (List.getElem?_eq_some_iff.1 hu).1
    rw [h.1] at hj
    rw [← h7, List.getElem?_take_of_lt hj] at hu
    simpa using hu
theorem Ow.clip {o : Option Addr} {cap : Nat} (h : Ow W B e sz (.slice o n cap) n xs) : Ow W B e sz (.slice o n n) n xs := by
  refine ⟨h.1, ?_⟩
  rcases h.2 with ⟨h1, h2⟩ | ⟨g, c2, cur, h1, h2, h3, h4, h5, h6, h7⟩
  · cases h1; exact .inl ⟨rfl, rfl⟩
  · cases h1
    exact .inr ⟨g, n, cur, rfl, h2, h3, Nat.le_refl _, Nat.le_trans h4 h5, Nat.le_trans (Nat.mul_le_mul_right _ h4) h6, h7⟩
theorem Ow.nil (hz : xs = []) : Ow W B e sz (.slice none 0 0) 0 xs := by subst hz; exact ⟨by simp, .inl ⟨rfl, rfl⟩⟩
theorem Ow.empty {g : Nat} (hB : B g) (h : W.heap[g]? = some (.cells #[] e (0, 0))) : Ow W B e sz (.slice (some ⟨g, 0, none⟩) 0 0) 0 [] :=
  ⟨by simp, .inr ⟨g, 0, #[], rfl, hB, h, Nat.le_refl _, Nat.zero_le _, by simp, by simp⟩⟩
theorem Ow.fresh {g : Nat} {cs : Array Value} (hB : B g) (h : W.heap[g]? = some (.cells cs e (0, 0))) (hc : cs.size = sz) : Ow W B e sz (.slice (some ⟨g, 0, none⟩) 1 1) 1 cs.toList :=
  ⟨by simp [hc], .inr ⟨g, 1, cs, rfl, hB, h, Nat.le_refl _, by decide, by simp [hc], by rw [Nat.one_mul, ← hc, ← Array.length_toList, List.take_length]⟩⟩
theorem Ow.cells (h : Ow W B e sz v n xs) {g : Nat} (hg : v.ownBlock = some g) : ∀ (j : Nat) (u : Value), xs[j]? = some u → W.cell? ((⟨g, 0, none⟩ : Addr).add j) = some u := by
  intro j u hu
  obtain ⟨o, cap, rfl⟩ := h.form
  obtain ⟨_, _, b, off, h3, h4⟩ := h.rd
  have hn : 0 < n := by
    have hj := (List.getElem?_eq_some_iff.1 hu).1
    rw [h.1] at hj
    rcases Nat.eq_zero_or_pos n with h0 | h0
    · subst h0; simp at hj
    · exact h0
  have := h3 hn
  subst this
  have e1 : off = 0 ∧ b = g := by
    rcases h.2 with ⟨h1, h2⟩ | ⟨g', c2, cur, h1, _⟩
    · cases h1
    · cases h1; simp [Value.ownBlock] at hg; exact ⟨rfl, hg⟩
  obtain ⟨rfl, rfl⟩ := e1
  rw [Addr.add_lit]
  exact h4 j u hu
end
section
variable {P : Program} {w : World}
theorem app_ow (B : Nat → Prop) (t ty e : TypeId) (i : TypeInfo) (z : Value) (sz bytes : Nat) (ht : P.underlying t = some (.slice e)) (hi : P.info? e = some i) (hz : i.zero = some z)
    (hsize : i.size = sz) (hby : i.bytes = bytes) (hzs : z.cells.size = sz) (hsz : 0 < sz) (v : Value) (n : Nat) (xs : List Value) (hown : Ow w B e sz v n xs)
    (so : Option Addr) (m c : Nat) (news : List Value) (hl : news.length = m * sz) (hnews : 0 < m → ∃ ad, so = some ad ∧ ∀ (j : Nat) (u : Value), news[j]? = some u → w.cell? (ad.add j) = some u) (h1 : ∀ u ∈ news, u.oneCell' = true)
    (h63 : n + m ≤ maxLen) (hbytes : (n + m) * bytes ≤ 140737488355328) (hB : B w.heap.size) :
    ∃ o' cap' w', (Builtin.append_ #[t, t] ty #[v, .slice so m c]).run P w = .ok (.slice o' (n + m) cap') w' ∧ Ow w' B e sz (.slice o' (n + m) cap') (n + m) (xs ++ news) ∧ w.grownBy w' v.ownBlock ∧
      ((Value.slice o' (n + m) cap').ownBlock = v.ownBlock ∨ (Value.slice o' (n + m) cap').ownBlock = some w.heap.size) ∧ (∀ o c, v = .slice o n c → n + m ≤ c → o' = o ∧ cap' = c) := by
  subst hsize
  subst hby
  have h63' : n + m ≤ 9223372036854775807 := by simp only [maxLen] at h63; omega
  have hlen : (xs ++ news).length = (n + m) * i.size := by rw [List.length_append, hown.1, hl, Nat.add_mul]
  have grown : ∀ old : Nat, old < n + m → ∀ row : Option Nat,
      Ow (w.drew.alloc (.cells (xs.toArray ++ news.toArray ++ Builtin.zeroCells z.cells (grownCap w (n + m) old e - (n + m))) e)) B e i.size (.slice (some ⟨w.heap.size, 0, none⟩) (n + m) (grownCap w (n + m) old e)) (n + m) (xs ++ news) ∧
      w.grownBy (w.drew.alloc (.cells (xs.toArray ++ news.toArray ++ Builtin.zeroCells z.cells (grownCap w (n + m) old e - (n + m))) e)) row := by
    intro old ho row
    have hge := grownCap_ge w (n + m) old e
    refine ⟨⟨hlen, .inr ⟨w.heap.size, _, _, rfl, hB, heap_alloc_new w.drew _, hge, grownCap_le_maxLen w (n + m) old e h63, ?_, ?_⟩⟩, ⟨rfl, rfl, rfl, by simp, fun k hk _ => Below.heap_alloc w.drew _ k hk⟩⟩
    · simp only [Array.size_append, List.size_toArray, size_zeroCells, hzs, hown.1, hl, ← Nat.add_mul]
      exact Nat.mul_le_mul_right _ (by omega)
    · simp only [Array.toList_append, List.append_assoc]
      rw [← List.append_assoc, ← hlen]
      exact List.take_left
  rcases Nat.eq_zero_or_pos m with h0 | h0
  · subst h0
    have hnn : news = [] := List.length_eq_zero_iff.1 (by rw [hl, Nat.zero_mul])
    subst hnn
    obtain ⟨o', cap', rfl⟩ := hown.form
    have hnc : n ≤ cap' := hown.rd.1
    have hsrc : Src P i.size t (.slice so 0 c) 0 [] w := by
      cases so with
      | none => exact Src.ofNil w ht c
      | some ad => exact Src.ofSlice w ht ad 0 c [] (by simp) (fun j u hu => by simp at hu) (fun u hu => by simp at hu)
    exact ⟨o', cap', w, run_append_nothing w t t ty e i ht hi o' n cap' hnc _ hsrc, by simpa using hown, ⟨rfl, rfl, rfl, Nat.le_refl _, fun _ _ _ => rfl⟩, .inl rfl, fun o c e _ => by simpa using e⟩
  obtain ⟨ad, rfl, hc⟩ := hnews h0
  rcases hown.2 with ⟨rfl, rfl⟩ | ⟨g, cap, cur, rfl, hbg, hg, hnc, hcm, hcs, htake⟩
  · have hx : xs = [] := List.eq_nil_of_length_eq_zero (by simpa using hown.1)
    subst hx
    have hr := run_append_nil (P := P) w t ty e i z ht hi hz ad m c news hl hc h0 (by omega) (by have hb := hbytes; simp only [Nat.zero_add] at hb; omega)
    have hgr := grown 0 (by omega) (Value.ownBlock (.slice none 0 0))
    simp only [Nat.zero_add, List.nil_append, Array.empty_append] at hgr ⊢
    exact ⟨_, _, _, hr, hgr.1, hgr.2, .inr rfl, fun o c e hle => by simp at e; omega⟩
  · by_cases hroom : n + m ≤ cap
    · have hfit : n * i.size + news.length ≤ cur.size := by rw [hl, ← Nat.add_mul]; exact Nat.le_trans (Nat.mul_le_mul_right _ hroom) hcs
      have hr := run_append_room (P := P) w t ty e i ht hi g n cap cur hg ad m c news hl hc h1 hroom hfit
      refine ⟨_, _, _, hr, ⟨hlen, .inr ⟨g, cap, _, rfl, hbg, setRow_heap w g cur _ e _ hg, hroom, hcm, ?_, ?_⟩⟩, ⟨rfl, rfl, rfl, by simp, fun k _ hk => setRow_other w g k _ (fun e => hk (by simp [Value.ownBlock, e]))⟩, .inl rfl, fun o c e _ => by simpa using e⟩
      · simp only [List.size_toArray, List.length_append, List.length_take, List.length_drop, Array.length_toList]
        omega
      · rw [htake, ← hlen]
        exact List.take_left
    · have hr := run_append_grow (P := P) w t ty e i z ht hi hz ⟨g, 0, none⟩ n cap xs hown.1 (hown.cells (g := g) rfl) ad m c news hl hc (by omega) (by omega) (growslice_fits (by omega) hbytes)
      have hgr := grown cap (by omega) (Value.ownBlock (.slice (some ⟨g, 0, none⟩) n cap))
      exact ⟨_, _, _, hr, hgr.1, hgr.2, .inr rfl, fun o c e hle => by simp at e; omega⟩
theorem wpList_app_ow {ops : Array Oper} {rest : List Oper} {o : Oper} {a : Act} {Q : Exit → Act → World → Prop} (hgd : o.guard = none) (s x : Operand) (t : TypeId)
    (ho : o.op = .call { callee := .builtin .append, args := #[s, x], argTypes := #[t, t] }) (B : Nat → Prop) (e : TypeId) (i : TypeInfo) (z : Value) (sz bytes : Nat) (ht : P.underlying t = some (.slice e)) (hi : P.info? e = some i) (hz : i.zero = some z)
    (hsize : i.size = sz) (hby : i.bytes = bytes) (hzs : z.cells.size = sz) (hsz : 0 < sz) (v : Value) (n : Nat) (xs : List Value) (hs : a.eval s = v) (so : Option Addr) (m c : Nat) (news : List Value) (hx : a.eval x = .slice so m c)
    (hown : Ow w B e sz v n xs) (hl : news.length = m * sz) (hnews : 0 < m → ∃ ad, so = some ad ∧ ∀ (j : Nat) (u : Value), news[j]? = some u → w.cell? (ad.add j) = some u) (h1 : ∀ u ∈ news, u.oneCell' = true)
    (h63 : n + m ≤ maxLen) (hbytes : (n + m) * bytes ≤ 140737488355328) (hB : B w.heap.size)
    (h : ∀ o' cap' w', Ow w' B e sz (.slice o' (n + m) cap') (n + m) (xs ++ news) → w.grownBy w' v.ownBlock → ((Value.slice o' (n + m) cap').ownBlock = v.ownBlock ∨ (Value.slice o' (n + m) cap').ownBlock = some w.heap.size) → (∀ o c, v = .slice o n c → n + m ≤ c → o' = o ∧ cap' = c) → wpList P ops Q rest (a.put o.dst (.slice o' (n + m) cap')) w') :
    wpList P ops Q (o :: rest) a w := by
  refine wpList_plain hgd fun K hK => ?_
  obtain ⟨o', cap', w', hr, h2, h3, h4, h5⟩ := app_ow (P := P) (w := w) B t o.type e i z sz bytes ht hi hz hsize hby hzs hsz v n xs hown so m c news hl hnews h1 h63 hbytes hB
  unfold Oper.wp execOp
  simp only [ho, resolve, invoke, builtin, Sem.run_bind, Sem.run_pure, Result.andThen_ok, List.map_toArray, List.map_cons, List.map_nil, hs, hx, hr]
  exact hK _ _ (h _ _ _ h2 h3 h4 h5)
theorem step_app_ow {ops : Array Oper} {o : Oper} {a : Act} {K : Act → World → Prop} {Q : Exit → Act → World → Prop} {E : Prop} (hgd : o.guard = none) (s x : Operand) (t : TypeId)
    (ho : o.op = .call { callee := .builtin .append, args := #[s, x], argTypes := #[t, t] }) (B : Nat → Prop) (e : TypeId) (i : TypeInfo) (z : Value) (sz bytes : Nat) (ht : P.underlying t = some (.slice e)) (hi : P.info? e = some i) (hz : i.zero = some z)
    (hsize : i.size = sz) (hby : i.bytes = bytes) (hzs : z.cells.size = sz) (hsz : 0 < sz) (v : Value) (n : Nat) (xs : List Value) (hs : a.eval s = v) (so : Option Addr) (m c : Nat) (news : List Value) (hx : a.eval x = .slice so m c) (d : Tmp) (hd : o.dst = some d)
    (hown : Ow w B e sz v n xs) (hl : news.length = m * sz) (hnews : 0 < m → ∃ ad, so = some ad ∧ ∀ (j : Nat) (u : Value), news[j]? = some u → w.cell? (ad.add j) = some u) (h1 : ∀ u ∈ news, u.oneCell' = true)
    (h63 : n + m ≤ maxLen) (hbytes : (n + m) * bytes ≤ 140737488355328) (hB : B w.heap.size)
    (h : ∀ o' cap' w', Ow w' B e sz (.slice o' (n + m) cap') (n + m) (xs ++ news) → w.grownBy w' v.ownBlock → ((Value.slice o' (n + m) cap').ownBlock = v.ownBlock ∨ (Value.slice o' (n + m) cap').ownBlock = some w.heap.size) → (∀ o c, v = .slice o n c → n + m ≤ c → o' = o ∧ cap' = c) → K (a.put (some d) (.slice o' (n + m) cap')) w') :
    if Region.wanted o (yielded ops a.tmps) = true then Oper.wp P o a w K Q else E := by
  have hw : Region.wanted o (yielded ops a.tmps) = true := by simp [Region.wanted, hgd]
  rw [if_pos hw]
  obtain ⟨o', cap', w', hr, h2, h3, h4, h5⟩ := app_ow (P := P) (w := w) B t o.type e i z sz bytes ht hi hz hsize hby hzs hsz v n xs hown so m c news hl hnews h1 h63 hbytes hB
  unfold Oper.wp execOp
  simp only [ho, resolve, invoke, builtin, Sem.run_bind, Sem.run_pure, Result.andThen_ok, List.map_toArray, List.map_cons, List.map_nil, hs, hx, hr]
  show K (a.put o.dst _) _
  rw [hd]
  exact h _ _ _ h2 h3 h4 h5
end
theorem below_grown {W V V' : World} {row : Option Nat} (hV : RowKit.Below W.heap.size W V) (hr : ∀ g, row = some g → W.heap.size ≤ g) (hg : V.grownBy V' row) : RowKit.Below W.heap.size W V' := by
  refine hV.trans ⟨hg.os, hg.tape, hg.output, hg.size, fun b' hb' => hg.block b' (Nat.lt_of_lt_of_le hb' hV.size) (fun e => ?_)⟩
  have := hr b' e.symm
  omega
/-- a rule. -/
structure Ru where
  p : Int
  vh : Int
  vl : Int
  ch : Int
  cl : Int
  kd : Int
  po : Int
  tb : Int
  sh : Int
  sl : Int
  th : Int
  tl : Int
deriving DecidableEq, Inhabited
def ceR (r : Ru) : List Value := [.int .i64 r.p, .int .u64 r.vh, .int .u64 r.vl, .int .u64 r.ch, .int .u64 r.cl, .int .i64 r.kd, .int .i64 r.po, .int .i64 r.tb, .int .u64 r.sh, .int .u64 r.sl, .int .u64 r.th, .int .u64 r.tl]
/-- a port. -/
structure Pt where
  kind : Int
  ten : Int
  peer : Int
  at_ : Int
  cost : Int
deriving DecidableEq, Inhabited
def ceP (p : Pt) : List Value := [.int .i64 p.kind, .int .i64 p.ten, .int .i64 p.peer, .int .i64 p.at_, .int .i64 p.cost]
def ce2 (p : Int × Int) : List Value := [.int .i64 p.1, .int .i64 p.2]
def ce3 (p : Int × Int × Int) : List Value := [.int .i64 p.1, .int .i64 p.2.1, .int .i64 p.2.2]
/-- a change. -/
structure Ed where
  sw : Int
  tb : Int
  at_ : Int
  gone : Bool
  r : Ru
deriving DecidableEq, Inhabited
def ceE (x : Ed) : List Value := .int .i64 x.sw :: .int .i64 x.tb :: .int .i64 x.at_ :: .bool x.gone :: ceR x.r
theorem flat_len {α : Type} {ce : α → List Value} {sz : Nat} (h : ∀ x, (ce x).length = sz) : ∀ l : List α, (l.flatMap ce).length = l.length * sz
  | [] => by simp
  | x :: l => by simp [flat_len h l, h, Nat.add_mul]; omega
theorem flat_at {α : Type} {ce : α → List Value} {sz : Nat} (h : ∀ x, (ce x).length = sz) : ∀ (l : List α) (i : Nat) (hi : i < l.length) (k : Nat), k < sz → (l.flatMap ce)[i * sz + k]? = (ce l[i])[k]?
  | [], i, hi, _, _ => by simp at hi
  | x :: l, 0, _, k, hk => by rw [List.flatMap_cons, Nat.zero_mul, Nat.zero_add, List.getElem?_append_left (by rw [h]; exact hk)]; rfl
  | x :: l, i + 1, hi, k, hk => by
    have hi' : i < l.length := by simpa using hi
    have e : (i + 1) * sz + k - (ce x).length = i * sz + k := by rw [h, Nat.add_mul]; omega
    rw [List.flatMap_cons, List.getElem?_append_right (by rw [h, Nat.add_mul]; omega), e, flat_at h l i hi' k hk]
    rfl
theorem flat_one {α : Type} {ce : α → List Value} (h : ∀ x, ∀ u ∈ ce x, u.oneCell' = true) (l : List α) : ∀ u ∈ l.flatMap ce, u.oneCell' = true := by
  intro u hu
  rw [List.mem_flatMap] at hu
  obtain ⟨x, _, hx⟩ := hu
  exact h x u hx
theorem lenR (r : Ru) : (ceR r).length = 12 := rfl
theorem lenP (r : Pt) : (ceP r).length = 5 := rfl
theorem len2 (r : Int × Int) : (ce2 r).length = 2 := rfl
theorem len3 (r : Int × Int × Int) : (ce3 r).length = 3 := rfl
theorem lenE (x : Ed) : (ceE x).length = 16 := rfl
theorem oneR (r : Ru) : ∀ u ∈ ceR r, u.oneCell' = true := by
  intro u hu
  simp only [ceR, List.mem_cons, List.not_mem_nil, or_false] at hu
  rcases hu with rfl | rfl | rfl | rfl | rfl | rfl | rfl | rfl | rfl | rfl | rfl | rfl <;> rfl
theorem oneP (r : Pt) : ∀ u ∈ ceP r, u.oneCell' = true := by
  intro u hu
  simp only [ceP, List.mem_cons, List.not_mem_nil, or_false] at hu
  rcases hu with rfl | rfl | rfl | rfl | rfl <;> rfl
theorem one2 (r : Int × Int) : ∀ u ∈ ce2 r, u.oneCell' = true := by
  intro u hu
  simp only [ce2, List.mem_cons, List.not_mem_nil, or_false] at hu
  rcases hu with rfl | rfl <;> rfl
theorem one3 (r : Int × Int × Int) : ∀ u ∈ ce3 r, u.oneCell' = true := by
  intro u hu
  simp only [ce3, List.mem_cons, List.not_mem_nil, or_false] at hu
  rcases hu with rfl | rfl | rfl <;> rfl
theorem oneE (x : Ed) : ∀ u ∈ ceE x, u.oneCell' = true := by
  intro u hu
  simp only [ceE, List.mem_cons] at hu
  rcases hu with rfl | rfl | rfl | rfl | h
  · rfl
  · rfl
  · rfl
  · rfl
  · exact oneR _ u h
end Go.Proofs.Ytdmakcfgcgioeaa
