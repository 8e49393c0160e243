/- Agenda: an agenda as the calls see it. -/
import Derived.Test.YtlaagbnclkhbjaaAOrd
namespace Go.Proofs.Ytlaagbnclkhbjaa
open Go.RowKit Go.Maps
set_option linter.unusedSimpArgs false
set_option linter.unusedVariables false
set_option maxRecDepth 100000
abbrev DU := DataW Unit
def zd : DU := .lit (.bool false)
def ptrR : Value → Option (DU × List MemPlace)
  | .pointer none => some (zd, [])
  | .pointer (some a) => if a.off = 0 ∧ a.spot = none then some (.lit (.int .i64 (a.block : Int)), []) else none
  | _ => none
theorem u3 : Try.prog.underlying 3 = some (.int .i64) := by kernel_rfl
theorem u49 : Try.prog.underlying 49 = some (.map 3 54) := by kernel_rfl
theorem z54 (w : World) : (zeroValue 54).run Try.prog w = .ok (.pointer none) w := by kernel_rfl
theorem law3 : Keyed Try.prog 3 := int_keyed u3
abbrev Wf (x : Int) : Prop := (Lit.int .i64 x).wf = true
theorem key3 {x : Int} (h : Wf x) : keyOf Try.prog 3 (.int .i64 x) = some (.int .i64 x) := keyOf_int_mk u3 h
abbrev OM (w : World) (m cnt : Nat) (D : DU) : Prop := w.ownsMap Try.prog 3 ptrR m cnt D
theorem look_none {w : World} {m cnt : Nat} {D : DU} (h : OM w m cnt D) {x : Int} (hx : Wf x) (hd : D.atKey (.int .i64 x) zd = zd) : (Instr.lookup 49 (.map (some m)) (.int .i64 x) false).run Try.prog w = .ok (.pointer none) w := by
  obtain ⟨v, ps, hr, hv⟩ := h.lookup law3 u49 (z54 w) (zd := zd) (zp := []) rfl (key3 hx)
  rw [hd] at hv
  have : v = .pointer none := by
    unfold ptrR zd at hv
    split at hv <;> simp at hv <;> first | rfl | skip
  rw [this] at hr
  exact hr
theorem look_some {w : World} {m cnt : Nat} {D : DU} (h : OM w m cnt D) {x : Int} (hx : Wf x) {k : Nat} (hd : D.atKey (.int .i64 x) zd = .lit (.int .i64 (k : Int))) : (Instr.lookup 49 (.map (some m)) (.int .i64 x) false).run Try.prog w = .ok (.pointer (some ⟨k, 0, none⟩)) w := by
  obtain ⟨v, ps, hr, hv⟩ := h.lookup law3 u49 (z54 w) (zd := zd) (zp := []) rfl (key3 hx)
  rw [hd] at hv
  have : v = .pointer (some ⟨k, 0, none⟩) := by
    unfold ptrR at hv
    split at hv
    · simp [zd] at hv
    · rename_i a
      split at hv
      · rename_i ha
        simp at hv
        obtain ⟨b, o, s⟩ := a
        simp at ha hv
        obtain ⟨rfl, rfl⟩ := ha
        have := hv.1
        have : b = k := by omega
        subst this
        rfl
      · simp at hv
    · simp at hv
  rw [this] at hr
  exact hr
theorem owns_map {w w' : World} {m cnt : Nat} {D : DU} (h : OM w m cnt D) (hh : w'.heap[m]? = w.heap[m]?) : OM w' m cnt D := by
  obtain ⟨es, clock, hb, rest⟩ := h
  exact ⟨es, clock, hh.trans hb, rest⟩
structure AgB (S : Nat → Prop) (w : World) (p c m n : Nat) (κ : Nat → Nat) (A O I : Nat → Int) (L : List Nat) (cnt : Nat) (D : DU) : Prop where
  hq : Hq S w p n (.map (some m)) (.int .i64 (c : Int)) κ A O I
  ho : Ho (bef A O) n κ
  set : ∀ k, k ∈ L ↔ ∃ i, i < n ∧ κ i = k
  len : L.length = n
  up : L.Pairwise (fun a b => O a < O b)
  oc : ∀ k ∈ L, O k ≤ c
  ids : L.Pairwise (fun a b => I a ≠ I b)
  iw : ∀ k ∈ L, Wf (I k)
  map : OM w m cnt D
  key : ∀ x, D.atKey (.int .i64 x) zd = match L.find? (fun k => I k == x) with | some k => .lit (.int .i64 (k : Int)) | none => zd
  im : IsMap D
  cb : cnt ≤ c
  nb : n ≤ c
  sp : S p
  sm : ¬ S m
/-- the agenda at p holds just the list l of (moment, id), in the order of its making; c: how many calls have counted. -/
def Ag (F : Nat → Prop) (w : World) (p c : Nat) (l : List (Int × Int)) : Prop :=
  ∃ S m n κ A O I L cnt D, AgB S w p c m n κ A O I L cnt D ∧ (∀ b, S b → F b) ∧ F m ∧ (∀ b, F b → b < w.heap.size) ∧ l = L.map fun k => (A k, I k)
theorem right_c (p : Nat) (a : Int) (w : World) : Calls Try.prog 17 #[.pointer (some ⟨p, 0, none⟩), .int .i64 a] w fun e w' => e = .returned (.bool (decide (0 ≤ a ∧ a ≤ 1099511627776))) ∧ w' = w := by
  by_cases h1 : 0 ≤ a
  · by_cases h2 : a ≤ 1099511627776
    · have e : Hid (decide (0 ≤ a ∧ a ≤ 1099511627776) = true) := decide_eq_true ⟨h1, h2⟩
      go_enter Try.func17, Try.ntmps17
      go_wp2
      go_ret
      exact ⟨by simp [h1, h2], rfl⟩
    · have e : Hid (decide (0 ≤ a ∧ a ≤ 1099511627776) = false) := decide_eq_false (fun h => h2 h.2)
      go_enter Try.func17, Try.ntmps17
      go_wp2
      go_ret
      exact ⟨by simp [h1, h2], rfl⟩
  · have e : Hid (decide (0 ≤ a ∧ a ≤ 1099511627776) = false) := decide_eq_false (fun h => h1 h.1)
    go_enter Try.func17, Try.ntmps17
    go_wp2
    go_ret
    exact ⟨by simp [h1]; omega, rfl⟩
theorem Hq.bound {S : Nat → Prop} {w : World} {p n : Nat} {mv ov : Value} {κ : Nat → Nat} {A O I : Nat → Int} (h : Hq S w p n mv ov κ A O I) : Hq (fun b => S b ∧ b < w.heap.size) w p n mv ov κ A O I := by
  obtain ⟨sl, h1, h2, h3⟩ := h.hd
  refine ⟨⟨sl, h1, h2, fun r hr => ⟨h3 r hr, ?_⟩⟩, h.it, h.inj, fun i hi => ⟨h.sk i hi, (Array.getElem?_eq_some_iff.1 (h.it i hi)).1⟩⟩
  rcases h2.2 with ⟨rfl, _⟩ | ⟨g', cap, cur, rfl, _, hgg, _⟩
  · simp [Value.ownBlock] at hr
  · simp [Value.ownBlock] at hr
    subst hr
    exact (Array.getElem?_eq_some_iff.1 hgg).1
theorem AgB.bound {S : Nat → Prop} {w : World} {p c m n : Nat} {κ : Nat → Nat} {A O I : Nat → Int} {L : List Nat} {cnt : Nat} {D : DU} (h : AgB S w p c m n κ A O I L cnt D) : AgB (fun b => S b ∧ b < w.heap.size) w p c m n κ A O I L cnt D := by
  obtain ⟨sl, h1, _⟩ := h.hq.hd
  exact ⟨h.hq.bound, h.ho, h.set, h.len, h.up, h.oc, h.ids, h.iw, h.map, h.key, h.im, h.cb, h.nb, ⟨h.sp, (Array.getElem?_eq_some_iff.1 h1).1⟩, fun hh => h.sm hh.1⟩
def okAt (a : Int) : Bool := decide (0 ≤ a ∧ a ≤ 1099511627776)
def hasId (l : List (Int × Int)) (x : Int) : Bool := l.any fun y => y.2 == x
def addE (l : List (Int × Int)) (a x : Int) : Int := if okAt a then if hasId l x then 8 else 0 else 1
def addL (l : List (Int × Int)) (a x : Int) : List (Int × Int) := if okAt a && !hasId l x then l ++ [(a, x)] else l
/-- behind a call: the agenda holds l'; only its own blocks and new ones have turned. -/
def Aft (F : Nat → Prop) (w : World) (p c : Nat) (w' : World) (l' : List (Int × Int)) : Prop :=
  ∃ F' c', Ag F' w' p c' l' ∧ c' ≤ c + 1 ∧ Fr F w w' ∧ ∀ b, F' b → F b ∨ w.heap.size ≤ b
theorem Aft.same {F : Nat → Prop} {w : World} {p c : Nat} {l : List (Int × Int)} (h : Ag F w p c l) : Aft F w p c w l := ⟨F, c, h, by omega, Fr.refl _ _, fun _ hb => .inl hb⟩
theorem any_find (I : Nat → Int) (A : Nat → Int) (L : List Nat) (x : Int) : hasId (L.map fun k => (A k, I k)) x = (L.find? (fun k => I k == x)).isSome := by
  unfold hasId
  rw [List.any_map, Bool.eq_iff_iff, List.find?_isSome]
  simp
theorem AgB.heapm {S : Nat → Prop} {w : World} {p c m n : Nat} {κ : Nat → Nat} {A O I : Nat → Int} {L : List Nat} {cnt : Nat} {D : DU} (h : AgB S w p c m n κ A O I L cnt D) : ∃ es cl, w.heap[m]? = some (.map es cl) := by
  obtain ⟨es, cl, hb, _⟩ := h.map
  exact ⟨es, cl, hb⟩
def upd (f : Nat → Int) (k : Nat) (v : Int) : Nat → Int := fun x => if x = k then v else f x
theorem upd_s (f : Nat → Int) (k : Nat) (v : Int) : upd f k v k = v := by simp [upd]
theorem upd_o (f : Nat → Int) (k x : Nat) (v : Int) (h : x ≠ k) : upd f k v x = f x := by simp [upd, h]
theorem Hq.congrA {S : Nat → Prop} {w : World} {p n : Nat} {mv ov : Value} {κ : Nat → Nat} {A O I A' O' I' : Nat → Int} (h : Hq S w p n mv ov κ A O I) (e : ∀ i, i < n → A' (κ i) = A (κ i) ∧ O' (κ i) = O (κ i) ∧ I' (κ i) = I (κ i)) : Hq S w p n mv ov κ A' O' I' :=
  ⟨h.hd, fun i hi => by rw [(e i hi).1, (e i hi).2.1, (e i hi).2.2]; exact h.it i hi, h.inj, h.sk⟩
theorem Ho.congrA {n : Nat} {κ : Nat → Nat} {A O A' O' : Nat → Int} (h : Ho (bef A O) n κ) (e : ∀ i, i < n → A' (κ i) = A (κ i) ∧ O' (κ i) = O (κ i)) : Ho (bef A' O') n κ := fun j h0 hj => by
  have := h j h0 hj
  unfold bef at this ⊢
  rw [(e j hj).1, (e j hj).2, (e _ (by omega)).1, (e _ (by omega)).2]
  exact this
/-- the same heap in a world in which p's other cells, the map and new blocks have turned. -/
theorem Hq.turn {S : Nat → Prop} {w w' : World} {p n : Nat} {mv ov mv' ov' : Value} {κ : Nat → Nat} {A O I : Nat → Int} (h : Hq S w p n mv ov κ A O I)
    (hp : ∀ sl, w.heap[p]? = some (.cells #[sl, mv, ov] 53 (0, 0)) → w'.heap[p]? = some (.cells #[sl, mv', ov'] 53 (0, 0)))
    (hs : ∀ b, b < w.heap.size → b ≠ p → S b → w'.heap[b]? = w.heap[b]?) : Hq S w' p n mv' ov' κ A O I := by
  obtain ⟨sl, h1, h2, h3⟩ := h.hd
  have hkp : ∀ i, i < n → κ i ≠ p := fun i hi e => by have := h.it i hi; rw [e, h1] at this; simp at this
  refine ⟨⟨sl, hp sl h1, owns_of h2 (fun g hg => ?_), h3⟩, fun i hi => ?_, h.inj, h.sk⟩
  · rcases h2.2 with ⟨rfl, _⟩ | ⟨g', cap, cur, rfl, _, hgg, _⟩
    · simp [Value.ownBlock] at hg
    · simp [Value.ownBlock] at hg
      subst hg
      exact hs _ (Array.getElem?_eq_some_iff.1 hgg).1 (fun e => by rw [e, h1] at hgg; simp at hgg) (h3 _ rfl)
  · rw [hs _ (Array.getElem?_eq_some_iff.1 (h.it i hi)).1 (hkp i hi) (h.sk i hi)]
    exact h.it i hi
end Go.Proofs.Ytlaagbnclkhbjaa
