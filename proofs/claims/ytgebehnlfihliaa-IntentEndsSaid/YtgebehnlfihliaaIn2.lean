/- Intent: how an intent lies in the world; edge, tenant. -/
import Derived.Test.YtgebehnlfihliaaIdx
import Derived.Test.YtgebehnlfihliaaTGraph2
import Derived.Test.YtgebehnlfihliaaPlain
namespace Go.Proofs.Ytgebehnlfihliaa
open Go.RowKit
set_option linter.unusedSimpArgs false
set_option linter.unusedVariables false
set_option maxRecDepth 100000
structure En where
  ten : Int
  addr : Int
  sw : Int
  po : Int
structure Ac where
  V : BitVec 128
  C : BitVec 128
  per : Bool
/-- an intent. -/
structure In where
  T : Tp
  ten : Int
  np : Nat
  pe : Nat → Int × Int
  nw : Nat
  wy : Nat → Int × Int × Int
  ne : Nat
  en : Nat → En
  na : Nat
  ac : Nat → Ac
structure Ir where
  o : Option Addr
  c : Nat
  op : Option Addr
  cp : Nat
  ow : Option Addr
  cw : Nat
  oe : Option Addr
  ce : Nat
  oa : Option Addr
  ca : Nat
def In.cells (I : In) (r : Ir) : Array Value := #[.slice r.o I.T.n r.c, .int .i64 I.ten, .slice r.op I.np r.cp, .slice r.ow I.nw r.cw, .slice r.oe I.ne r.ce, .slice r.oa I.na r.ca]
def cvP (f : Nat → Int × Int) (i k : Nat) : Value := if k = 0 then .int .i64 (f i).1 else .int .i64 (f i).2
def cvW (f : Nat → Int × Int × Int) (i k : Nat) : Value := if k = 0 then .int .i64 (f i).1 else if k = 1 then .int .i64 (f i).2.1 else .int .i64 (f i).2.2
def cvE (f : Nat → En) (i k : Nat) : Value := if k = 0 then .int .i64 (f i).ten else if k = 1 then .int .u32 (f i).addr else if k = 2 then .int .i64 (f i).sw else .int .i64 (f i).po
def cvA (f : Nat → Ac) (i k : Nat) : Value := if k = 0 then .int .u64 ((Plain.hiOf (f i).V).toNat : Int) else if k = 1 then .int .u64 ((Plain.loOf (f i).V).toNat : Int) else if k = 2 then .int .u64 ((Plain.hiOf (f i).C).toNat : Int) else if k = 3 then .int .u64 ((Plain.loOf (f i).C).toNat : Int) else .bool (f i).per
structure NA (W : World) (r : Ir) (I : In) : Prop where
  ta : TA W r.o r.c I.T
  pe : Rw W r.op I.np r.cp 2 (cvP I.pe)
  wy : Rw W r.ow I.nw r.cw 3 (cvW I.wy)
  en : Rw W r.oe I.ne r.ce 4 (cvE I.en)
  ac : Rw W r.oa I.na r.ca 5 (cvA I.ac)
theorem NA.below {W W' : World} {r : Ir} {I : In} (h : NA W r I) (hb : RowKit.Below W.heap.size W W') : NA W' r I :=
  ⟨h.ta.below hb, h.pe.below hb, h.wy.below hb, h.en.below hb, h.ac.below hb⟩
/-- the tenant of an edge; below 0: there is none. -/
def edgeF (T : Tp) (sw po : Int) : Int :=
  if 0 ≤ sw ∧ sw < T.n ∧ 0 ≤ po ∧ po < T.ln sw.toNat ∧ (T.pt sw.toNat po.toNat).kind = 1 then (T.pt sw.toNat po.toNat).ten else -1
theorem redge_c {o : Option Addr} {cap : Nat} {T : Tp} {w : World} (h : TA w o cap T) (sw po : Int) :
    Calls Try.prog 31 #[.agg #[.slice o T.n cap], .agg #[.int .i64 sw, .int .i64 po]] w fun e w' => e = .returned (.int .i64 (edgeF T sw po)) ∧ RowKit.Below w.heap.size w w' := by
  obtain ⟨b', off, ro, rcs, rb, rf, g1, g2, g3, g4, g5⟩ := h.ex
  have G1 := Lib.hid g1
  have G4 := Lib.hid g4
  have G5 := Lib.hid g5
  clear g1 g4 g5
  go_enter Try.func31, Try.ntmps31
  go_wp2_with fail
  refine wp_world (fun W => RowKit.Below w.heap.size w W ∧ W.cell? ⟨w.heap.size, 0, none⟩ = some (.slice o T.n cap) ∧ W.cell? ⟨w.heap.size + 1, 0, none⟩ = some (.int .i64 sw) ∧ W.cell? ⟨w.heap.size + 1, 1, none⟩ = some (.int .i64 po)) ?_ ?_
  · have b1 : ((w.alloc (.cells #[.slice o T.n cap] 24)).alloc (.cells #[.int .i64 sw, .int .i64 po] 26)).heap[w.heap.size + 1]? = some (.cells #[.int .i64 sw, .int .i64 po] 26 (0, 0)) := by
      have := heap_alloc_new (w.alloc (.cells #[.slice o T.n cap] 24)) (.cells #[.int .i64 sw, .int .i64 po] 26)
      rwa [World.size_alloc] at this
    have b0 : ((w.alloc (.cells #[.slice o T.n cap] 24)).alloc (.cells #[.int .i64 sw, .int .i64 po] 26)).heap[w.heap.size]? = some (.cells #[.slice o T.n cap] 24 (0, 0)) := by
      rw [al_lt' (by simp)]; exact heap_alloc_new w _
    exact ⟨below2 _ _ _, (cell_b b0).trans rfl, (cell_b b1).trans rfl, (cell_b b1).trans rfl⟩
  rintro W3 ⟨hbW3, xW, sW0, sW1⟩
  by_cases c1 : 0 ≤ sw
  rotate_left
  · have e3 : Hid (edgeF T sw po = -1) := if_neg (fun hh => c1 hh.1)
    have c1b : decide (sw < 0) = true := decide_eq_true (by omega)
    (try go_quiet (fail))
    go_wp2_with fail
    go_ret
    exact ⟨by rw [e3.out]; rfl, hbW3.trans ⟨rfl, rfl, rfl, Nat.le_refl _, fun _ _ => rfl⟩⟩
  obtain ⟨sn, rfl⟩ : ∃ sn : Nat, sw = (sn : Int) := ⟨sw.toNat, by omega⟩
  have c1b : decide ((sn : Int) < 0) = false := decide_eq_false (by omega)
  by_cases c2 : sn < T.n
  rotate_left
  · have e3 : Hid (edgeF T (sn : Int) po = -1) := if_neg (fun hh => c2 (by have := hh.2.1; omega))
    have c2b : decide ((T.n : Int) ≤ (sn : Int)) = true := decide_eq_true (by omega)
    have c2c : decide (T.n ≤ sn) = true := decide_eq_true (by omega)
    (try go_quiet (fail))
    go_wp2_with fail
    go_ret
    exact ⟨by rw [e3.out]; rfl, hbW3.trans ⟨rfl, rfl, rfl, Nat.le_refl _, fun _ _ => rfl⟩⟩
  have c2I : (sn : Int) < (T.n : Int) := by omega
  have c2b : decide ((T.n : Int) ≤ (sn : Int)) = false := decide_eq_false (by omega)
  have c2c : decide (T.n ≤ sn) = false := decide_eq_false (by omega)
  obtain rfl := G1.out (by omega)
  obtain ⟨r1, r2, r3, r4⟩ := G4.out sn c2
  have yW := cell_below hbW3 r1
  by_cases c3 : 0 ≤ po
  rotate_left
  · have e3 : Hid (edgeF T (sn : Int) po = -1) := if_neg (fun hh => c3 hh.2.2.1)
    have c3b : decide (po < 0) = true := decide_eq_true (by omega)
    (try go_quiet (fail))
    go_wp2_with fail
    go_ret
    exact ⟨by rw [e3.out]; rfl, hbW3.trans ⟨rfl, rfl, rfl, Nat.le_refl _, fun _ _ => rfl⟩⟩
  obtain ⟨pn, rfl⟩ : ∃ pn : Nat, po = (pn : Int) := ⟨po.toNat, by omega⟩
  have c3b : decide ((pn : Int) < 0) = false := decide_eq_false (by omega)
  by_cases c4 : pn < T.ln sn
  rotate_left
  · have e3 : Hid (edgeF T (sn : Int) (pn : Int) = -1) := if_neg (fun hh => c4 (by have := hh.2.2.2.1; simp at this; omega))
    have c4b : decide ((T.ln sn : Int) ≤ (pn : Int)) = true := decide_eq_true (by omega)
    have c4c : decide (T.ln sn ≤ pn) = true := decide_eq_true (by omega)
    (try go_quiet (fail))
    go_wp2_with fail
    go_ret
    exact ⟨by rw [e3.out]; rfl, hbW3.trans ⟨rfl, rfl, rfl, Nat.le_refl _, fun _ _ => rfl⟩⟩
  have c4I : (pn : Int) < (T.ln sn : Int) := by omega
  have c4b : decide ((T.ln sn : Int) ≤ (pn : Int)) = false := decide_eq_false (by omega)
  have c4c : decide (T.ln sn ≤ pn) = false := decide_eq_false (by omega)
  obtain ⟨p0, p1, p2, p3, p4⟩ := G5.out sn pn c2 c4
  have pW := cell_below hbW3 p0
  have pW1 := cell_below hbW3 p1
  rw [r4 (by omega)] at yW
  clear p0 p1 p2 p3 p4 r1
  by_cases c5 : (T.pt sn pn).kind = 1
  · have e3 : Hid (edgeF T (sn : Int) (pn : Int) = (T.pt sn pn).ten) := if_pos ⟨by omega, by omega, by omega, by simpa using c4, by simpa using c5⟩
    rw [c5] at pW
    generalize (T.pt sn pn).ten = tn at pW1 e3
    (try go_quiet (fail))
    go_wp2_with fail
    (try go_quiet (fail))
    go_wp2_with fail
    go_ret
    exact ⟨by rw [e3.out]; rfl, hbW3.trans ⟨rfl, rfl, rfl, Nat.le_refl _, fun _ _ => rfl⟩⟩
  · have e3 : Hid (edgeF T (sn : Int) (pn : Int) = -1) := if_neg (fun hh => c5 (by simpa using hh.2.2.2.2))
    generalize (T.pt sn pn).kind = kk at pW c5
    have c5b : (kk != 1) = true := by simpa using c5
    (try go_quiet (fail))
    go_wp2_with fail
    go_ret
    exact ⟨by rw [e3.out]; rfl, hbW3.trans ⟨rfl, rfl, rfl, Nat.le_refl _, fun _ _ => rfl⟩⟩
end Go.Proofs.Ytgebehnlfihliaa
