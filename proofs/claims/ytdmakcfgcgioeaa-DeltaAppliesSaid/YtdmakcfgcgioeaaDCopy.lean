/- Delta: the document's Copy. -/
import Derived.Test.YtdmakcfgcgioeaaDApply
import Derived.Test.YtdmakcfgcgioeaaDSame
import Derived.Deep.DrawnRows
namespace Go.Proofs.Ytdmakcfgcgioeaa
open Go.RowKit Go.Maps
set_option linter.unusedSimpArgs false
set_option linter.unusedVariables false
set_option maxRecDepth 100000
attribute [local go_sem ↓] Go.wp_at_zero Go.wp_at_succ
theorem OX.empty {α : Type} {te : TypeId} {O : World → (Nat → Prop) → α → Value → Prop} {W : World} {S : Nat → Prop} {g : Nat} (hS : S g) (h : W.heap[g]? = some (.cells #[] te (0, 0))) : OX te O W S [] (.slice (some ⟨g, 0, none⟩) 0 0) [] (fun _ _ => False) :=
  ⟨Ow.empty hS h, fun i hi => by simp at hi, fun i g hi => by simp at hi, fun i j g hi => by simp at hi⟩
/-- one more behind a list of one's own that a cell holds. -/
theorem snoc_set {α : Type} {te : TypeId} {O : World → (Nat → Prop) → α → Value → Prop} (hO : Good O) {V wr w5 wz w6 : World} {m out k i : Nat} {L : List α} {x : α} {o3 o6 : Option Addr} {c3 c6 : Nat} {vs : List Value} {Ss : Nat → Nat → Prop} {u : Value} {B : Nat → Prop} {cs : Array Value} {t : TypeId} {fr : Nat × Nat}
    (hox : OX te O wr (fun g => m ≤ g ∧ g < wr.heap.size) L (.slice o3 i c3) vs Ss) (hu : O w5 (fun g => wr.heap.size ≤ g) x u) (hb5 : RowKit.Below wr.heap.size wr w5) (hz : RowKit.Below w5.heap.size w5 wz)
    (hown : Ow w6 B te 1 (.slice o6 (i + 1) c6) (i + 1) (vs ++ [u])) (hi : L.length = i) (hg : wz.grownBy w6 (Value.slice o3 i c3).ownBlock) (hat : (Value.slice o6 (i + 1) c6).ownBlock = (Value.slice o3 i c3).ownBlock ∨ (Value.slice o6 (i + 1) c6).ownBlock = some wz.heap.size)
    (hom : out < m) (hm : V.heap.size ≤ m) (hmw : m ≤ wr.heap.size) (hcell : wr.heap[out]? = some (.cells cs t fr)) (hfr : Fr (fun g => g = out) V wr) :
    (w6.cell? ⟨out, k, none⟩ = cs[k]? ∧ (fr = (0, 0) → w6.frozen? ⟨out, k, none⟩ = false)) ∧ (w6.setCell ⟨out, k, none⟩ (.slice o6 (i + 1) c6)).heap[out]? = some (.cells (cs.setIfInBounds k (.slice o6 (i + 1) c6)) t fr) ∧ OR te O (w6.setCell ⟨out, k, none⟩ (.slice o6 (i + 1) c6)) (fun g => m ≤ g ∧ g < (w6.setCell ⟨out, k, none⟩ (.slice o6 (i + 1) c6)).heap.size) (L ++ [x]) (.slice o6 (i + 1) c6) ∧ Fr (fun g => g = out) V (w6.setCell ⟨out, k, none⟩ (.slice o6 (i + 1) c6)) ∧ wr.heap.size ≤ w6.heap.size := by
  subst hi
  have hlo : out < wr.heap.size := (Array.getElem?_eq_some_iff.1 hcell).1
  have hs1 := hfr.size
  have hs2 := hb5.size
  have hs3 := hz.size
  have hs4 := hg.size
  have hwo : w6.heap[out]? = some (.cells cs t fr) := (hg.block _ (by omega) (fun e => by have := (hox.row.lt e.symm).1.1; omega)).trans ((hz.block _ (by omega)).trans ((hb5.block _ (by omega)).trans hcell))
  have hsn := hox.snoc hO hu (fun g h => h) hb5 hz hown hg hat (S' := fun g => m ≤ g ∧ g < w6.heap.size) (fun g h _ => ⟨h.1, by have := h.2; omega⟩) (fun g h1 h2 => ⟨by omega, h2⟩)
  have hk : ∀ g, g ≠ out → (w6.setCell ⟨out, k, none⟩ (.slice o6 (L.length + 1) c6)).heap[g]? = w6.heap[g]? := fun g hg => Below.heap_setCell _ _ _ _ hg
  refine ⟨⟨cell_b hwo, fun e => by subst e; simp [World.frozen?, hwo]⟩, sc_at9 hwo, (goodR hO).mono ((goodR hO).frame hsn fun g hgo _ => hk g (by have := hgo.1; omega)) (fun g hgo _ => ⟨hgo.1, by simpa using hgo.2⟩), ?_, by omega⟩
  exact ⟨hg.os.trans (hz.os.trans (hb5.os.trans hfr.os)), hg.tape.trans (hz.tape.trans (hb5.tape.trans hfr.tape)), hg.output.trans (hz.output.trans (hb5.output.trans hfr.output)), by simp; omega, fun g hgl hgo => (hk g hgo).trans ((hg.block g (by omega) (fun e => by have := (hox.row.lt e.symm).1.1; omega)).trans ((hz.block g (by omega)).trans ((hb5.block g (by omega)).trans (hfr.same g hgl hgo))))⟩
set_option maxHeartbeats 8000000 in
theorem copy_c (w : World) {C : Cf} {vp ve vw vt : Value} (h : RC w C vp ve vw vt) (hbd : Bd C) :
    Calls Try.prog 7 #[.agg #[vp, .int .i64 C.ten, ve, vw, vt]] w fun e w' => ∃ vp' ve' vw' vt' m, e = .returned (.agg #[vp', .int .i64 C.ten, ve', vw', vt']) ∧ OC w' w.heap.size m C vp' ve' vw' vt' ∧ RowKit.Below w.heap.size w w' := by
  obtain ⟨op, cp, bp, fp, rfl, ap1, ap2, ap3, ap4⟩ := h.pt.get
  obtain ⟨oe, ce, ee, he1, he2⟩ : ∃ o c, ve = .slice o C.pe.length c ∧ (o = none → C.pe.length = 0 ∧ c = 0) ∧ Rd w o C.pe.length c (C.pe.flatMap ce2) := h.pe
  obtain ⟨ow, cw, ew, hw1, hw2⟩ : ∃ o c, vw = .slice o C.wy.length c ∧ (o = none → C.wy.length = 0 ∧ c = 0) ∧ Rd w o C.wy.length c (C.wy.flatMap ce3) := h.wy
  subst ee ew
  obtain ⟨ot, ct, bt, ft, rfl, at1, at2, at3, at4⟩ := h.tb.get
  have AP4 := Lib.hid ap4
  have AT4 := Lib.hid at4
  have HE2 := Lib.hid he2
  have HW2 := Lib.hid hw2
  have HBD := Lib.hid hbd
  have hb1 := hbd.pt
  have hb2 := hbd.pe
  have hb3 := hbd.wy
  have hb4 := hbd.tb
  clear h ap4 at4 he1 he2 hw1 hw2 hbd
  obtain ⟨np, hnp⟩ : ∃ n, Hid (C.pt.length = n) := ⟨_, Lib.hid rfl⟩
  obtain ⟨ne, hne⟩ : ∃ n, Hid (C.pe.length = n) := ⟨_, Lib.hid rfl⟩
  obtain ⟨nw, hnw⟩ : ∃ n, Hid (C.wy.length = n) := ⟨_, Lib.hid rfl⟩
  obtain ⟨nt, hnt⟩ : ∃ n, Hid (C.tb.length = n) := ⟨_, Lib.hid rfl⟩
  rw [hnp.out] at ap1 ap3 hb1 ⊢
  rw [hne.out] at HE2 hb2 ⊢
  rw [hnw.out] at HW2 hb3 ⊢
  rw [hnt.out] at at1 at3 hb4 ⊢
  have AP3 := Lib.hid ap3
  have AT3 := Lib.hid at3
  clear ap3 at3
  obtain ⟨a0, ai, az0, az1, az2⟩ := info_parts inf63
  obtain ⟨b0, bi, bz0, bz1, bz2⟩ := info_parts inf65
  obtain ⟨W, hW⟩ : ∃ W, Hid (W = (w.alloc (.cells #[.slice op np cp, .int .i64 C.ten, .slice oe ne ce, .slice ow nw cw, .slice ot nt ct] 31)).alloc (.cells #[.slice none 0 0, .int .i64 0, .slice none 0 0, .slice none 0 0, .slice none 0 0] 31)) := ⟨_, Lib.hid rfl⟩
  have hbx : RowKit.Below w.heap.size w W := by rw [hW.out]; exact below2 _ _ _
  have hs : W.heap.size = w.heap.size + 1 + 1 := by rw [hW.out]; simp
  have hm0 : W.heap[w.heap.size]? = some (.cells #[.slice op np cp, .int .i64 C.ten, .slice oe ne ce, .slice ow nw cw, .slice ot nt ct] 31 (0, 0)) := by
    rw [hW.out, al_lt' (by simp)]; exact heap_alloc_new w _
  have hm1 : W.heap[w.heap.size + 1]? = some (.cells #[.slice none 0 0, .int .i64 0, .slice none 0 0, .slice none 0 0, .slice none 0 0] 31 (0, 0)) := by
    have := heap_alloc_new (w.alloc (.cells #[.slice op np cp, .int .i64 C.ten, .slice oe ne ce, .slice ow nw cw, .slice ot nt ct] 31)) (.cells #[.slice none 0 0, .int .i64 0, .slice none 0 0, .slice none 0 0, .slice none 0 0] 31)
    rw [hW.out]
    rwa [World.size_alloc] at this
  have x1 : W.cell? ⟨w.heap.size, 1, none⟩ = some (.int .i64 C.ten) := (cell_b hm0).trans rfl
  go_enter Try.func7, Try.ntmps7
  go_upto_region 1 with (fail)
  rw [← hW.out]
  go_upto_region 2 with (fail)
  refine wp_world (fun V => V.heap.size = w.heap.size + 3 ∧ V.heap[w.heap.size]? = some (.cells #[.slice op np cp, .int .i64 C.ten, .slice oe ne ce, .slice ow nw cw, .slice ot nt ct] 31 (0, 0)) ∧ V.heap[w.heap.size + 1]? = some (.cells #[.slice none 0 0, .int .i64 0, .slice none 0 0, .slice none 0 0, .slice none 0 0] 31 (0, 0)) ∧ V.heap[w.heap.size + 1 + 1]? = some (.cells #[.slice none 0 0, .int .i64 C.ten, .slice none 0 0, .slice none 0 0, .slice none 0 0] 31 (0, 0)) ∧ RowKit.Below w.heap.size w V) ?_ ?_
  · refine ⟨by simp [hs], (al_lt' (by omega)).trans hm0, (al_lt' (by omega)).trans hm1, ?_, below_al hbx _⟩
    have := heap_alloc_new W (.cells #[.slice none 0 0, .int .i64 C.ten, .slice none 0 0, .slice none 0 0, .slice none 0 0] 31)
    rwa [hs] at this
  rintro V1 ⟨hs1, m0, m1, m2, hbv⟩
  clear hm0 hm1 hW x1 hbx hs
  have x2 : V1.cell? ⟨w.heap.size, 2, none⟩ = some (.slice oe ne ce) := (cell_b m0).trans rfl
  have e0 : V1.cell? ⟨w.heap.size + 1 + 1, 2, none⟩ = some (.slice none 0 0) := (cell_b m2).trans rfl
  have f0 : V1.frozen? ⟨w.heap.size + 1 + 1, 2, none⟩ = false := by simp [World.frozen?, m2]
  have HS1 := Lib.hid hs1
  clear hs1
  have hq0 : 0 + ne ≤ maxLen := by simp only [maxLen]; omega
  have hq1 : (0 + ne) * 16 ≤ 140737488355328 := by omega
  have hl1 : Hid ((C.pe.flatMap ce2).length = ne * 2) := Lib.hid (by rw [flat_len len2, hne.out])
  have RD1 := Lib.hid (HE2.out.below hbv)
  have ls0 : w.heap.size < V1.heap.size := by have := HS1.out; omega
  have ls1 : w.heap.size + 1 + 1 < V1.heap.size := by have := HS1.out; omega
  go_upto_region 3 with (at_builtin; refine wpList_app_ow rfl _ _ 25 rfl (fun g => V1.heap.size ≤ g) 63 a0 (.agg #[.int .i64 0, .int .i64 0]) 2 16 und25 ai az0 az1 az2 rfl (by decide) (.slice (some ⟨V1.heap.size, 0, none⟩) 0 0) 0 [] (by simp [Act.eval, Act.put]) oe ne ce (C.pe.flatMap ce2) (by simp [Act.eval, Act.put]) (Ow.empty (Nat.le_refl _) (heap_alloc_new V1 _)) hl1.out ?_ (flat_one one2 _) hq0 hq1 (by simp) ?_; (focus (exact (RD1.out.below (below_al (Below.refl _ _) _)).news)); intro o1 c1 w1 hown hg hat hsm; have hw1 : RowKit.Below V1.heap.size V1 w1 := below_grown (below_al (Below.refl _ _) _) (fun g hgv => by simp [Value.ownBlock] at hgv; omega) hg; have m2' := (hw1.block _ ls1).trans m2; have e0 : w1.cell? ⟨w.heap.size + 1 + 1, 2, none⟩ = some (.slice none 0 0) := (cell_b m2').trans rfl; have f0 : w1.frozen? ⟨w.heap.size + 1 + 1, 2, none⟩ = false := by simp [World.frozen?, m2'])
  refine wp_world (fun V => (V.heap[w.heap.size]? = some (.cells #[.slice op np cp, .int .i64 C.ten, .slice oe ne ce, .slice ow nw cw, .slice ot nt ct] 31 (0, 0)) ∧ V.heap[w.heap.size + 1]? = some (.cells #[.slice none 0 0, .int .i64 0, .slice none 0 0, .slice none 0 0, .slice none 0 0] 31 (0, 0)) ∧ V.heap[w.heap.size + 1 + 1]? = some (.cells #[.slice none 0 0, .int .i64 C.ten, .slice o1 ne c1, .slice none 0 0, .slice none 0 0] 31 (0, 0))) ∧ O1 ce2 63 2 V (fun g => w.heap.size + 3 ≤ g ∧ g < V.heap.size) C.pe (.slice o1 ne c1) ∧ RowKit.Below w.heap.size w V ∧ V1.heap.size ≤ V.heap.size) ?_ ?_
  · have hbs := hw1.size
    have hk : ∀ g, g ≠ w.heap.size + 1 + 1 → (w1.setCell ⟨w.heap.size + 1 + 1, 2, none⟩ (.slice o1 ne c1)).heap[g]? = w1.heap[g]? := fun g hg => Below.heap_setCell _ _ _ _ hg
    refine ⟨⟨(hk _ (by omega)).trans ((hw1.block _ (by omega)).trans m0), (hk _ (by omega)).trans ((hw1.block _ (by omega)).trans m1), (sc_at9 m2').trans rfl⟩, ?_, Below.setCell (below_st hbv hw1) (by simp <;> omega) _, by simpa using hbs⟩
    unfold O1
    rw [hne.out]
    have h1 : Ow w1 (fun g => V1.heap.size ≤ g) 63 2 (.slice o1 ne c1) ne (C.pe.flatMap ce2) := by simpa using hown
    exact (h1.keep fun g hgo => hk g (by have := (h1.lt hgo).1; omega)).mono fun g hgo hl => ⟨by have := HS1.out; omega, by simpa using (h1.lt hgo).2⟩
  rintro V2 ⟨⟨n0, n1, n2⟩, hpe, hbv2, hsv2⟩
  clear m0 m1 m2 m2' hw1 hown hg hat hsm x2 e0 f0 ls0 ls1 RD1 hl1 hbv hq0 hq1
  have x2 : V2.cell? ⟨w.heap.size, 3, none⟩ = some (.slice ow nw cw) := (cell_b n0).trans rfl
  have e0 : V2.cell? ⟨w.heap.size + 1 + 1, 3, none⟩ = some (.slice none 0 0) := (cell_b n2).trans rfl
  have f0 : V2.frozen? ⟨w.heap.size + 1 + 1, 3, none⟩ = false := by simp [World.frozen?, n2]
  have hq0 : 0 + nw ≤ maxLen := by simp only [maxLen]; omega
  have hq1 : (0 + nw) * 24 ≤ 140737488355328 := by omega
  have hl1 : Hid ((C.wy.flatMap ce3).length = nw * 3) := Lib.hid (by rw [flat_len len3, hnw.out])
  have RD1 := Lib.hid (HW2.out.below hbv2)
  have ls0 : w.heap.size < V2.heap.size := by have := HS1.out; omega
  have ls1 : w.heap.size + 1 + 1 < V2.heap.size := by have := HS1.out; omega
  have HPE := Lib.hid hpe
  clear hpe
  go_upto_region 4 with (at_builtin; refine wpList_app_ow rfl _ _ 26 rfl (fun g => V2.heap.size ≤ g) 65 b0 (.agg #[.int .i64 0, .int .i64 0, .int .i64 0]) 3 24 und26 bi bz0 bz1 bz2 rfl (by decide) (.slice (some ⟨V2.heap.size, 0, none⟩) 0 0) 0 [] (by simp [Act.eval, Act.put]) ow nw cw (C.wy.flatMap ce3) (by simp [Act.eval, Act.put]) (Ow.empty (Nat.le_refl _) (heap_alloc_new V2 _)) hl1.out ?_ (flat_one one3 _) hq0 hq1 (by simp) ?_; (focus (exact (RD1.out.below (below_al (Below.refl _ _) _)).news)); intro o2 c2 w2 hown hg hat hsm; have hw2 : RowKit.Below V2.heap.size V2 w2 := below_grown (below_al (Below.refl _ _) _) (fun g hgv => by simp [Value.ownBlock] at hgv; omega) hg; have n2' := (hw2.block _ ls1).trans n2; have e0 : w2.cell? ⟨w.heap.size + 1 + 1, 3, none⟩ = some (.slice none 0 0) := (cell_b n2').trans rfl; have f0 : w2.frozen? ⟨w.heap.size + 1 + 1, 3, none⟩ = false := by simp [World.frozen?, n2'])
  refine wp_world (fun V => (V.heap[w.heap.size]? = some (.cells #[.slice op np cp, .int .i64 C.ten, .slice oe ne ce, .slice ow nw cw, .slice ot nt ct] 31 (0, 0)) ∧ V.heap[w.heap.size + 1]? = some (.cells #[.slice none 0 0, .int .i64 0, .slice none 0 0, .slice none 0 0, .slice none 0 0] 31 (0, 0)) ∧ V.heap[w.heap.size + 1 + 1]? = some (.cells #[.slice none 0 0, .int .i64 C.ten, .slice o1 ne c1, .slice o2 nw c2, .slice none 0 0] 31 (0, 0))) ∧ (O1 ce2 63 2 V (fun g => w.heap.size + 3 ≤ g ∧ g < V.heap.size) C.pe (.slice o1 ne c1) ∧ O1 ce3 65 3 V (fun g => w.heap.size + 3 ≤ g ∧ g < V.heap.size) C.wy (.slice o2 nw c2)) ∧ RowKit.Below w.heap.size w V ∧ w.heap.size + 3 ≤ V.heap.size) ?_ ?_
  · have hbs := hw2.size
    have hss := HS1.out
    have hk : ∀ g, g ≠ w.heap.size + 1 + 1 → (w2.setCell ⟨w.heap.size + 1 + 1, 3, none⟩ (.slice o2 nw c2)).heap[g]? = w2.heap[g]? := fun g hg => Below.heap_setCell _ _ _ _ hg
    refine ⟨⟨(hk _ (by omega)).trans ((hw2.block _ (by omega)).trans n0), (hk _ (by omega)).trans ((hw2.block _ (by omega)).trans n1), (sc_at9 n2').trans rfl⟩, ⟨?_, ?_⟩, Below.setCell (below_st hbv2 hw2) (by simp <;> omega) _, by simp; omega⟩
    · exact (good1 _ _ _).mono ((good1 _ _ _).frame HPE.out fun g hgo hl => (hk g (by omega)).trans (hw2.block g hl)) fun g hgo _ => ⟨hgo.1, by have := hgo.2; simp; omega⟩
    · unfold O1
      rw [hnw.out]
      have h1 : Ow w2 (fun g => V2.heap.size ≤ g) 65 3 (.slice o2 nw c2) nw (C.wy.flatMap ce3) := by simpa using hown
      exact (h1.keep fun g hgo => hk g (by have := (h1.lt hgo).1; omega)).mono fun g hgo hl => ⟨by omega, by simpa using (h1.lt hgo).2⟩
  rintro V3 ⟨⟨k0, k1, k2⟩, ⟨hpe, hwy⟩, hbv3, hsv3⟩
  clear n0 n1 n2 n2' hw2 hown hg hat hsm x2 e0 f0 ls0 ls1 RD1 hl1 hbv2 hq0 hq1 HPE hsv2 HS1 a0 ai az0 az1 az2 b0 bi bz0 bz1 bz2
  have HPE := Lib.hid hpe
  have HWY := Lib.hid hwy
  have K0 := Lib.hid k0
  have K1 := Lib.hid k1
  have K2 := Lib.hid k2
  clear hpe hwy k0 k1 k2
  obtain ⟨p0, pi, pz0, pz1, pz2⟩ := info_parts inf73
  obtain ⟨q0, qi, qz0, qz1, qz2⟩ := info_parts inf58
  go_wp2_with fail
  go_loopw [4] (fun v4 wr => ∃ (i : Nat) (vp : Value), v4 = .int .i64 (i : Int) ∧ i ≤ np ∧ wr.heap[w.heap.size + 1 + 1]? = some (.cells #[vp, .int .i64 C.ten, .slice o1 ne c1, .slice o2 nw c2, .slice none 0 0] 31 (0, 0)) ∧ OR 58 (O1 ceP 73 5) wr (fun g => V3.heap.size ≤ g ∧ g < wr.heap.size) (C.pt.take i) vp ∧ Fr (fun g => g = w.heap.size + 1 + 1) V3 wr) (fun v4 _ => np - (intOf v4).toNat)
  case atStart => exact ⟨0, _, rfl, Nat.zero_le _, K2.out, ⟨_, _, OX.nil⟩, Fr.refl _ _⟩
  case round =>
    obtain ⟨i, vp, rfl, hi, hout, ⟨vs, Ss, hox⟩, hfr⟩ := hrel
    have htl : (C.pt.take i).length = i := by rw [List.length_take, hnp.out]; omega
    obtain ⟨o3, c3, e3⟩ := hox.row.form
    have hrow := hox.row
    rw [htl] at e3 hrow
    subst e3
    have hfs := hfr.size
    have x0 : wr.cell? ⟨w.heap.size, 0, none⟩ = some (.slice op np cp) := (cell_b ((hfr.same _ (by omega) (by omega)).trans K0.out)).trans rfl
    have oc : wr.cell? ⟨w.heap.size + 1 + 1, 0, none⟩ = some (.slice o3 i c3) := (cell_b hout).trans rfl
    have hbr : ∀ g, g < w.heap.size → wr.heap[g]? = w.heap[g]? := fun g hg => (hfr.same g (by omega) (by omega)).trans (hbv3.block g hg)
    have HROW := Lib.hid hrow
    have HTL := Lib.hid htl
    have HOX := Lib.hid hox
    have HFR := Lib.hid hfr
    have HOUT := Lib.hid hout
    clear hrow htl hox hfr hout
    by_cases hlt : i < np
    · have hltI : (i : Int) < (np : Int) := by omega
      have hiA : i < C.pt.length := by rw [hnp.out]; exact hlt
      obtain ⟨u, h1, ou, cu, rfl, h2, h3⟩ := AP4.out i hiA
      have hbl := HBD.out.pts _ (List.getElem_mem hiA)
      obtain ⟨l, hl⟩ : ∃ l, Hid (C.pt[i] = l) := ⟨_, Lib.hid rfl⟩
      rw [hl.out] at h1 h2 h3 hbl
      have htk := Lib.hid (take_snoc C.pt i hiA)
      rw [hl.out] at htk
      have r0 : wr.cell? ⟨bp, fp + i, none⟩ = some (.slice ou l.length cu) := by
        rw [World.cell?_of_block (w := w) (hbr _ (World.block_lt_of_cell? w _ h1))]
        exact h1
      have HRD : Hid (Rd w ou l.length cu (l.flatMap ceP)) := h3
      obtain ea := Lib.hid (AP3.out (by omega))
      rw [ea.out] at x0 ⊢
      have s0 := World.block_lt_of_cell? wr _ x0
      have s1 := World.block_lt_of_cell? wr _ oc
      have s2 := World.block_lt_of_cell? wr _ r0
      have hln : Hid ((l.flatMap ceP).length = l.length * 5) := Lib.hid (flat_len lenP l)
      have hq0 : 0 + l.length ≤ maxLen := by simp only [maxLen]; omega
      have hq1 : (0 + l.length) * 40 ≤ 140737488355328 := by omega
      have hp : i + 1 ≤ maxLen := by simp only [maxLen]; omega
      have hq : (i + 1) * 24 ≤ 140737488355328 := by omega
      clear h1 h2 h3
      have ky : ∀ V, RowKit.Below wr.heap.size wr V → V.cell? ⟨w.heap.size, 0, none⟩ = some (.slice (some ⟨bp, fp, none⟩) np cp) ∧ V.cell? ⟨w.heap.size + 1 + 1, 0, none⟩ = some (.slice o3 i c3) ∧ V.frozen? ⟨w.heap.size + 1 + 1, 0, none⟩ = false ∧ V.cell? ⟨bp, fp + i, none⟩ = some (.slice ou l.length cu) ∧ w.heap.size < V.heap.size ∧ w.heap.size + 1 + 1 < V.heap.size ∧ bp < V.heap.size := fun V hV => ⟨cell_below hV x0, cell_below hV oc, by have := (hV.block _ s1).trans HOUT.out; simp [World.frozen?, this], cell_below hV r0, Nat.lt_of_lt_of_le s0 hV.size, Nat.lt_of_lt_of_le s1 hV.size, Nat.lt_of_lt_of_le s2 hV.size⟩
      have KY := Lib.hid ky
      have hrd : ∀ V, RowKit.Below wr.heap.size wr V → Rd V ou l.length cu (l.flatMap ceP) := fun V hV => by
        obtain ⟨z1, z2, b, off, z3, z4⟩ := HRD.out
        refine ⟨z1, z2, b, off, z3, fun j u hu => cell_below hV ?_⟩
        rw [World.cell?_of_block (w := w) (hbr _ (World.block_lt_of_cell? w _ (z4 j u hu)))]
        exact z4 j u hu
      have HR := Lib.hid hrd
      have hfz : wr.frozen? ⟨w.heap.size + 1 + 1, 0, none⟩ = false := by simp [World.frozen?, HOUT.out]
      have hom : w.heap.size + 1 + 1 < V3.heap.size := by omega
      clear ky hrd hbr
      go_upto_region 7 with (fail)
      go_region_law (first
        | (refine step_app_ow rfl (.tmp 38) (.tmp 44) 58 rfl (fun g => wr.heap.size ≤ g) 73 p0 (.agg #[.int .i64 0, .int .i64 0, .int .i64 0, .int .i64 0, .int .i64 0]) 5 40 und58 pi pz0 pz1 pz2 rfl (by decide) (.slice (some ⟨wr.heap.size, 0, none⟩) 0 0) 0 [] (by simp [Act.eval, Act.put]) ou l.length cu (l.flatMap ceP) (by simp [Act.eval, Act.put]) 45 rfl (Ow.empty (Nat.le_refl _) (heap_alloc_new wr _)) hln.out ?_ (flat_one oneP _) hq0 hq1 (by simp) ?_; (focus (exact (HR.out _ (by (repeat (first | exact Below.refl _ _ | exact hbA | refine below_dr ?_ | refine below_al ?_ _)))).news)); intro o5 c5 w5 hown5 hg5 hat5 hsm5; have hb5 : RowKit.Below wr.heap.size wr w5 := below_grown (by (repeat (first | exact Below.refl _ _ | exact hbA | refine below_dr ?_ | refine below_al ?_ _))) (fun g hgv => by simp [Value.ownBlock] at hgv; omega) hg5; obtain ⟨y1, y2, y3, y4, y5, y6, y7⟩ := KY.out w5 hb5; have hown5 : Hid (O1 ceP 73 5 w5 (fun g => wr.heap.size ≤ g) l (.slice o5 l.length c5)) := Lib.hid (by simpa [O1] using hown5); have hsz5 := hb5.size; clear hsm5 hat5 hg5; have hb5 := Lib.hid hb5)
        | (refine step_app_ow rfl (.tmp 37) (.tmp 46) 22 rfl (fun g => V3.heap.size ≤ g) 58 q0 (.slice none 0 0) 1 24 und22 qi qz0 qz1 qz2 rfl (by decide) (.slice o3 i c3) i vs (by simp [Act.eval, Act.put]) (some ⟨w5.heap.size, 0, none⟩) 1 1 [.slice o5 l.length c5] (by simp [Act.eval, Act.put]) 47 rfl ?_ rfl (fun _ => ⟨_, rfl, cell_one_new _ _ _⟩) (by intro u hu; simp at hu; subst hu; rfl) hp hq (by simp; omega) ?_; (focus (exact (HROW.out.mono (fun g _ h => h.1)).keep fun g hg => (al_lt' (by have := (HROW.out.lt hg).2; have := hb5.out.size; omega)).trans (hb5.out.block g (HROW.out.lt hg).2))); intro o6 c6 w6 hown6 hg6 hat6 hsm6; have hfin := snoc_set (good1 ceP 73 5) (k := 0) HOX.out hown5.out hb5.out (below_al (Below.refl _ _) _) hown6 HTL.out hg6 hat6 hom (Nat.le_refl _) hfs HOUT.out HFR.out; have hat6 := Lib.hid hat6; clear hsm6 hown6 hg6; have y8 := hfin.1.1.trans rfl; have y9 := hfin.1.2 rfl; have HFIN := Lib.hid hfin; clear hfin)
        | fail)
      all_goals
        rw [htk.out.symm] at HFIN
        go_wp2_with fail
        go_roundw
        case rel => exact ⟨i + 1, _, by go_num, by omega, HFIN.out.2.1.trans rfl, HFIN.out.2.2.1, HFIN.out.2.2.2.1⟩
        case measure => simp [intOf]; omega
    · obtain rfl : i = np := by omega
      have htk : C.pt.take i = C.pt := by rw [← hnp.out, List.take_length]
      have hpt := HOX.out
      rw [htk] at hpt
      have hpt' : OR 58 (O1 ceP 73 5) wr (fun g => w.heap.size + 3 ≤ g ∧ g < wr.heap.size) C.pt (.slice o3 i c3) := (goodR (good1 _ _ _)).mono ⟨_, _, hpt⟩ fun g hg _ => ⟨by omega, hg.2⟩
      have hpe' := (good1 ce2 63 2).mono ((good1 ce2 63 2).frame HPE.out fun g hgo hl => HFR.out.same g hl (by omega)) (S' := fun g => w.heap.size + 3 ≤ g ∧ g < wr.heap.size) fun g hgo _ => ⟨hgo.1, by omega⟩
      have hwy' := (good1 ce3 65 3).mono ((good1 ce3 65 3).frame HWY.out fun g hgo hl => HFR.out.same g hl (by omega)) (S' := fun g => w.heap.size + 3 ≤ g ∧ g < wr.heap.size) fun g hgo _ => ⟨hgo.1, by omega⟩
      have k0 := (HFR.out.same _ (by omega) (by omega)).trans K0.out
      have k1 := (HFR.out.same _ (by omega) (by omega)).trans K1.out
      have hbw4 := below_fr hbv3 HFR.out (fun g hg => by omega)
      have HPT := Lib.hid hpt'
      clear hpt
      have HPE4 := Lib.hid hpe'
      have HWY4 := Lib.hid hwy'
      have HB4 := Lib.hid hbw4
      clear htk hpt' hpe' hwy' oc
      go_upto_region 8 with (fail)
      refine wp_world (fun V => V = wr) rfl ?_
      rintro V4 rfl
      have K04 := Lib.hid k0
      have K14 := Lib.hid k1
      have hsv4 : w.heap.size + 3 ≤ V4.heap.size := by omega
      clear k0 k1 hbw4 x0
      obtain ⟨j0, ji, jz0, jz1, jz2⟩ := info_parts inf44
      obtain ⟨t0, ti, tz0, tz1, tz2⟩ := info_parts inf43
      obtain ⟨l0, li, lz0, lz1, lz2⟩ := info_parts inf53
      go_wp2_with fail
      go_loopw [5] (fun v5 wr => ∃ (j : Nat) (vt' : Value), v5 = .int .i64 (j : Int) ∧ j ≤ nt ∧ wr.heap[w.heap.size + 1 + 1]? = some (.cells #[.slice o3 i c3, .int .i64 C.ten, .slice o1 ne c1, .slice o2 nw c2, vt'] 31 (0, 0)) ∧ OR 43 (OR 44 (O1 ceR 53 12)) wr (fun g => V4.heap.size ≤ g ∧ g < wr.heap.size) (C.tb.take j) vt' ∧ Fr (fun g => g = w.heap.size + 1 + 1) V4 wr) (fun v5 _ => nt - (intOf v5).toNat)
      case atStart => exact ⟨0, _, rfl, Nat.zero_le _, HOUT.out, ⟨_, _, OX.nil⟩, Fr.refl _ _⟩
      case round =>
        obtain ⟨j, vt', rfl, hj, hout5, ⟨vs5, Ss5, hox5⟩, hfr5⟩ := hrel
        have htl5 : (C.tb.take j).length = j := by rw [List.length_take, hnt.out]; omega
        obtain ⟨o4, c4, e4⟩ := hox5.row.form
        have hrow5 := hox5.row
        rw [htl5] at e4 hrow5
        subst e4
        have hfs5 := hfr5.size
        have x4 : wr.cell? ⟨w.heap.size, 4, none⟩ = some (.slice ot nt ct) := (cell_b ((hfr5.same _ (by omega) (by omega)).trans K04.out)).trans rfl
        have oc4 : wr.cell? ⟨w.heap.size + 1 + 1, 4, none⟩ = some (.slice o4 j c4) := (cell_b hout5).trans rfl
        have hbr5 : ∀ g, g < w.heap.size → wr.heap[g]? = w.heap[g]? := fun g hg => (hfr5.same g (by omega) (by omega)).trans (HB4.out.block g hg)
        have HROW5 := Lib.hid hrow5
        have HTL5 := Lib.hid htl5
        have HOX5 := Lib.hid hox5
        have HFR5 := Lib.hid hfr5
        have HOUT5 := Lib.hid hout5
        clear hrow5 htl5 hox5 hfr5 hout5
        by_cases hlt5 : j < nt
        · have hltI5 : (j : Int) < (nt : Int) := by omega
          have hjA : j < C.tb.length := by rw [hnt.out]; exact hlt5
          obtain ⟨u5, h1, h2⟩ := AT4.out j hjA
          have hbs := HBD.out.tbs _ (List.getElem_mem hjA)
          have hbl5 := HBD.out.tbl _ (List.getElem_mem hjA)
          obtain ⟨y, hy⟩ : ∃ y, Hid (C.tb[j] = y) := ⟨_, Lib.hid rfl⟩
          rw [hy.out] at h2 hbs hbl5
          have HBL5 := Lib.hid hbl5
          obtain ⟨oy, cy, byy, fy, rfl, b1, b2, b3, b4⟩ := h2.get
          have htk5 := Lib.hid (take_snoc C.tb j hjA)
          rw [hy.out] at htk5
          obtain ⟨ny, hny⟩ : ∃ n, Hid (y.length = n) := ⟨_, Lib.hid rfl⟩
          rw [hny.out] at b1 b3 h1 hbs
          have B3 := Lib.hid b3
          have B4 := Lib.hid b4
          have H2 := Lib.hid h2
          have r5 : wr.cell? ⟨bt, ft + j, none⟩ = some (.slice oy ny cy) := by
            rw [World.cell?_of_block (w := w) (hbr5 _ (World.block_lt_of_cell? w _ h1))]
            exact h1
          have HBR5 := Lib.hid hbr5
          have ea5 := Lib.hid (AT3.out (by omega))
          rw [ea5.out] at x4 ⊢
          have X4 := Lib.hid x4
          have R5 := Lib.hid r5
          clear h1 h2 b3 b4 hbl5 hbr5
          refine wp_world (fun V => V = wr) rfl ?_
          rintro V9 rfl
          go_upto_region 12 with (fail)
          refine wp_world (fun V => RowKit.Below V9.heap.size V9 V ∧ V.heap[V9.heap.size]? = some (.cells #[] 44 (0, 0))) ⟨below_al (Below.refl _ _) _, heap_alloc_new V9 _⟩ ?_
          rintro V5 ⟨hb5, hm5⟩
          have hm5l : V9.heap.size < V5.heap.size := (Array.getElem?_eq_some_iff.1 hm5).1
          have HM5 := Lib.hid hm5
          have HB5 := Lib.hid hb5
          clear hm5
          go_wp2_with fail
          go_loopw [6, 7] (fun v6 v7 wk => ∃ k : Nat, v7 = .int .i64 (k : Int) ∧ k ≤ ny ∧ OR 44 (O1 ceR 53 12) wk (fun g => V9.heap.size ≤ g ∧ g < wk.heap.size) (y.take k) v6 ∧ RowKit.Below V9.heap.size V9 wk) (fun _ v7 _ => ny - (intOf v7).toNat)
          case atStart => exact ⟨0, rfl, Nat.zero_le _, ⟨_, _, OX.empty ⟨Nat.le_refl _, hm5l⟩ HM5.out⟩, HB5.out⟩
          case round =>
            obtain ⟨k, rfl, hk, ⟨vs6, Ss6, hox6⟩, hb6⟩ := hrel
            have htl6 : (y.take k).length = k := by rw [List.length_take, hny.out]; omega
            obtain ⟨o6, c6, e6⟩ := hox6.row.form
            have hrow6 := hox6.row
            rw [htl6] at e6 hrow6
            subst e6
            have HROW6 := Lib.hid hrow6
            have HTL6 := Lib.hid htl6
            have HOX6 := Lib.hid hox6
            have HB6 := Lib.hid hb6
            have hfs6 := hb6.size
            have x4 := cell_below hb6 X4.out
            have r5 := cell_below hb6 R5.out
            clear hrow6 htl6 hox6 hb6
            by_cases hlt6 : k < ny
            · have hltI6 : (k : Int) < (ny : Int) := by omega
              have hkA : k < y.length := by rw [hny.out]; exact hlt6
              obtain ⟨u6, h1, ou, cu, rfl, h2, h3⟩ := B4.out k hkA
              have hbl := HBL5.out _ (List.getElem_mem hkA)
              obtain ⟨l, hl⟩ : ∃ l, Hid (y[k] = l) := ⟨_, Lib.hid rfl⟩
              rw [hl.out] at h1 h2 h3 hbl
              have htk6 := Lib.hid (take_snoc y k hkA)
              rw [hl.out] at htk6
              have eb := Lib.hid (B3.out (by omega))
              rw [eb.out] at r5
              have hvw : ∀ V, RowKit.Below wr.heap.size wr V → ∀ g, g < w.heap.size → V.heap[g]? = w.heap[g]? := fun V hV g hg => (hV.block g (by omega)).trans ((HB6.out.block g (by omega)).trans (HBR5.out g hg))
              have r6 : wr.cell? ⟨byy, fy + k, none⟩ = some (.slice ou l.length cu) := by
                rw [World.cell?_of_block (w := w) (hvw wr (Below.refl _ _) _ (World.block_lt_of_cell? w _ h1))]
                exact h1
              have hrd : ∀ V, RowKit.Below wr.heap.size wr V → Rd V ou l.length cu (l.flatMap ceR) := fun V hV => by
                obtain ⟨z1, z2, b, off, z3, z4⟩ := h3
                refine ⟨z1, z2, b, off, z3, fun j u hu => ?_⟩
                rw [World.cell?_of_block (w := w) (hvw V hV _ (World.block_lt_of_cell? w _ (z4 j u hu)))]
                exact z4 j u hu
              have HR := Lib.hid hrd
              have hln : Hid ((l.flatMap ceR).length = l.length * 12) := Lib.hid (flat_len lenR l)
              have hq0 : 0 + l.length ≤ maxLen := by simp only [maxLen]; omega
              have hq1 : (0 + l.length) * 96 ≤ 140737488355328 := by omega
              have hp : k + 1 ≤ maxLen := by simp only [maxLen]; omega
              have hq : (k + 1) * 24 ≤ 140737488355328 := by omega
              have s0 := World.block_lt_of_cell? wr _ x4
              have s1 := World.block_lt_of_cell? wr _ r5
              have s2 := World.block_lt_of_cell? wr _ r6
              clear h1 h2 h3 hrd hvw
              go_upto_region 15 with (fail)
              go_wp2_with (first
                | (at_builtin; refine wpList_app_ow rfl (.tmp 69) (.tmp 77) 44 rfl (fun g => wr.heap.size ≤ g) 53 l0 (.agg #[.int .i64 0, .int .u64 0, .int .u64 0, .int .u64 0, .int .u64 0, .int .i64 0, .int .i64 0, .int .i64 0, .int .u64 0, .int .u64 0, .int .u64 0, .int .u64 0]) 12 96 und44 li lz0 lz1 lz2 rfl (by decide) (.slice (some ⟨wr.heap.size, 0, none⟩) 0 0) 0 [] (by simp [Act.eval, Act.put]) ou l.length cu (l.flatMap ceR) (by simp [Act.eval, Act.put]) (Ow.empty (Nat.le_refl _) (heap_alloc_new wr _)) hln.out ?_ (flat_one oneR _) hq0 hq1 (by simp) ?_; (focus (exact (HR.out _ (by (repeat (first | exact Below.refl _ _ | exact hbA | refine below_dr ?_ | refine below_al ?_ _)))).news)); intro o7 c7 w7 hown7 hg7 hat7 hsm7; have hb7 : RowKit.Below wr.heap.size wr w7 := below_grown (by (repeat (first | exact Below.refl _ _ | exact hbA | refine below_dr ?_ | refine below_al ?_ _))) (fun g hgv => by simp [Value.ownBlock] at hgv; omega) hg7; have hown7 : Hid (O1 ceR 53 12 w7 (fun g => wr.heap.size ≤ g) l (.slice o7 l.length c7)) := Lib.hid (by simpa [O1] using hown7); have hsz7 := hb7.size; clear hsm7 hat7 hg7; have hb7 := Lib.hid hb7)
                | (at_builtin; refine wpList_app_ow rfl (.tmp 68) (.tmp 79) 43 rfl (fun g => V9.heap.size ≤ g) 44 j0 (.slice none 0 0) 1 24 und43 ji jz0 jz1 jz2 rfl (by decide) (.slice o6 k c6) k vs6 (by simp [Act.eval, Act.put]) (some ⟨w7.heap.size, 0, none⟩) 1 1 [.slice o7 l.length c7] (by simp [Act.eval, Act.put]) ?_ rfl (fun _ => ⟨_, rfl, cell_one_new _ _ _⟩) (by intro u hu; simp at hu; subst hu; rfl) hp hq (by simp; omega) ?_; (focus (exact (HROW6.out.mono (fun g _ h => h.1)).keep fun g hg => (al_lt' (by have := (HROW6.out.lt hg).2; have := hb7.out.size; omega)).trans (hb7.out.block g (HROW6.out.lt hg).2))); intro o8 c8 w8 hown8 hg8 hat8 hsm8; have hsz8 := hg8.size; have hsn8 := HOX6.out.snoc (good1 ceR 53 12) hown7.out (fun g h => h) hb7.out (below_al (Below.refl _ _) _) (by rw [HTL6.out]; exact hown8) hg8 (by first | exact hat8 | simpa using hat8) (S' := fun g => V9.heap.size ≤ g ∧ g < w8.heap.size) (fun g h _ => ⟨h.1, by have := h.2; have := hg8.size; simp at this; omega⟩) (fun g h1 h2 => ⟨by omega, h2⟩); rw [← htk6.out] at hsn8; have hbn8 : RowKit.Below V9.heap.size V9 w8 := below_grown (below_al (below_st HB6.out hb7.out) _) (fun g hgv => (HROW6.out.lt hgv).1.1) hg8; have HSN8 := Lib.hid hsn8; have HBN8 := Lib.hid hbn8; clear hsn8 hbn8 hsm8 hat8 hg8 hown8))
              go_roundw
              case rel => exact ⟨k + 1, by go_num, by omega, HSN8.out, HBN8.out⟩
              case measure => simp [intOf]; omega
            · obtain rfl : k = ny := by omega
              have hty : y.take k = y := by rw [← hny.out, List.take_length]
              have hoxy := HOX6.out
              rw [hty] at hoxy
              have hory : OR 44 (O1 ceR 53 12) wr (fun g => V9.heap.size ≤ g) y (.slice o6 k c6) := (goodR (good1 _ _ _)).mono ⟨_, _, hoxy⟩ fun g hg _ => hg.1
              have HORY := Lib.hid hory
              have oc4 : wr.cell? ⟨w.heap.size + 1 + 1, 4, none⟩ = some (.slice o4 j c4) := cell_below HB6.out oc4
              have s1 := World.block_lt_of_cell? wr _ oc4
              have hp : j + 1 ≤ maxLen := by simp only [maxLen]; omega
              have hq : (j + 1) * 24 ≤ 140737488355328 := by omega
              have hom4 : w.heap.size + 1 + 1 < V4.heap.size := by omega
              clear hty hoxy hory
              go_upto_region 16 with (fail)
              go_wp2_with (first
                | (at_builtin; refine wpList_app_ow rfl (.tmp 82) (.tmp 84) 29 rfl (fun g => V4.heap.size ≤ g) 43 t0 (.slice none 0 0) 1 24 und29 ti tz0 tz1 tz2 rfl (by decide) (.slice o4 j c4) j vs5 (by simp [Act.eval, Act.put]) (some ⟨wr.heap.size, 0, none⟩) 1 1 [.slice o6 k c6] (by simp [Act.eval, Act.put]) ?_ rfl (fun _ => ⟨_, rfl, cell_one_new _ _ _⟩) (by intro u hu; simp at hu; subst hu; rfl) hp hq (by simp; omega) ?_; (focus (exact (HROW5.out.mono (fun g _ h => h.1)).keep fun g hg => (al_lt' (by have := (HROW5.out.lt hg).2; omega)).trans (HB6.out.block g (HROW5.out.lt hg).2))); intro o8 c8 w8 hown8 hg8 hat8 hsm8; have hfin := snoc_set (goodR (good1 ceR 53 12)) (k := 4) HOX5.out HORY.out HB6.out (below_al (Below.refl _ _) _) hown8 HTL5.out hg8 (by first | exact hat8 | simpa using hat8) hom4 (Nat.le_refl _) hfs5 HOUT5.out HFR5.out; clear hsm8 hown8 hg8 hat8; have y8 := hfin.1.1.trans rfl; have y9 := hfin.1.2 rfl; have HFIN := Lib.hid hfin; clear hfin))
              rw [htk5.out.symm] at HFIN
              go_roundw
              case rel => exact ⟨j + 1, _, by go_num, by omega, HFIN.out.2.1.trans rfl, HFIN.out.2.2.1, HFIN.out.2.2.2.1⟩
              case measure => simp [intOf]; omega
        · obtain rfl : j = nt := by omega
          have htk : C.tb.take j = C.tb := by rw [← hnt.out, List.take_length]
          have htb := HOX5.out
          rw [htk] at htb
          have hoc : OC wr (w.heap.size + 3) V4.heap.size C (.slice o3 i c3) (.slice o1 ne c1) (.slice o2 nw c2) (.slice o4 j c4) :=
            ⟨hsv4, hfs5, (goodR (good1 _ _ _)).frame HPT.out fun g hg hl => HFR5.out.same g hl (by have := hg.1; omega), (good1 ce2 63 2).frame HPE4.out fun g hg hl => HFR5.out.same g hl (by have := hg.1; omega), (good1 ce3 65 3).frame HWY4.out fun g hg hl => HFR5.out.same g hl (by have := hg.1; omega), (goodR (goodR (good1 _ _ _))).mono ⟨_, _, htb⟩ fun g hg _ => hg.1⟩
          have HOC := Lib.hid hoc
          have hbz := below_fr HB4.out HFR5.out (fun g hg => by omega)
          have N0 := HOUT5.out
          have N1 := (HFR5.out.same (w.heap.size + 1) (by omega) (by omega)).trans K14.out
          have y0 : wr.cell? ⟨w.heap.size + 1 + 1, 0, none⟩ = some (.slice o3 i c3) := (cell_b N0).trans rfl
          have y1 : wr.cell? ⟨w.heap.size + 1 + 1, 1, none⟩ = some (.int .i64 C.ten) := (cell_b N0).trans rfl
          have y2 : wr.cell? ⟨w.heap.size + 1 + 1, 2, none⟩ = some (.slice o1 ne c1) := (cell_b N0).trans rfl
          have y3 : wr.cell? ⟨w.heap.size + 1 + 1, 3, none⟩ = some (.slice o2 nw c2) := (cell_b N0).trans rfl
          have r0 : wr.cell? ⟨w.heap.size + 1, 0, none⟩ = some (.slice none 0 0) := (cell_b N1).trans rfl
          have r1 : wr.cell? ⟨w.heap.size + 1, 1, none⟩ = some (.int .i64 0) := (cell_b N1).trans rfl
          have r2 : wr.cell? ⟨w.heap.size + 1, 2, none⟩ = some (.slice none 0 0) := (cell_b N1).trans rfl
          have r3 : wr.cell? ⟨w.heap.size + 1, 3, none⟩ = some (.slice none 0 0) := (cell_b N1).trans rfl
          have r4 : wr.cell? ⟨w.heap.size + 1, 4, none⟩ = some (.slice none 0 0) := (cell_b N1).trans rfl
          have g0 : wr.frozen? ⟨w.heap.size + 1, 0, none⟩ = false := by simp [World.frozen?, N1]
          have g1 : wr.frozen? ⟨w.heap.size + 1, 1, none⟩ = false := by simp [World.frozen?, N1]
          have g2 : wr.frozen? ⟨w.heap.size + 1, 2, none⟩ = false := by simp [World.frozen?, N1]
          have g3 : wr.frozen? ⟨w.heap.size + 1, 3, none⟩ = false := by simp [World.frozen?, N1]
          have g4 : wr.frozen? ⟨w.heap.size + 1, 4, none⟩ = false := by simp [World.frozen?, N1]
          have FZ := Lib.hid (five_cells (.slice o3 i c3) (.int .i64 C.ten) (.slice o1 ne c1) (.slice o2 nw c2) (.slice o4 j c4) N1)
          have HBZ := Lib.hid hbz
          clear hoc htk htb N0 N1 hbz
          go_wp2_with fail
          obtain ⟨d31, hu31, hd31⟩ := wide_of wide31
          (try simp only [Exit.inBlock, Exit.then])
          refine bodyPost_ret (results_cell_row (P := Try.prog) rfl _ _ (w.heap.size + 1) 31 #[.slice o3 i c3, .int .i64 C.ten, .slice o1 ne c1, .slice o2 nw c2, .slice o4 j c4] (0, 0) d31 rfl FZ.out hu31 (by cases d31 <;> first | rfl | (simp at hd31)) siz31) rfl ?_
          refine ⟨_, _, _, _, V4.heap.size, rfl, HOC.out.to (by omega) (fun g hg _ => ?_) (by simp), Below.setCell (Below.setCell (Below.setCell (Below.setCell (Below.setCell HBZ.out (by simp) _) (by simp) _) (by simp) _) (by simp) _) (by simp) _⟩
          have hne9 : g ≠ w.heap.size + 1 := by omega
          exact (Below.heap_setCell _ _ _ _ hne9).trans ((Below.heap_setCell _ _ _ _ hne9).trans ((Below.heap_setCell _ _ _ _ hne9).trans ((Below.heap_setCell _ _ _ _ hne9).trans (Below.heap_setCell _ _ _ _ hne9))))
end Go.Proofs.Ytdmakcfgcgioeaa
