/- Agenda: the heap as the calls see it. -/
import Derived.Test.YtlaagbnclkhbjaaASwap
namespace Go.Proofs.Ytlaagbnclkhbjaa
open Go.RowKit
set_option linter.unusedSimpArgs false
set_option linter.unusedVariables false
set_option maxRecDepth 100000

/-! worlds by their blocks -/
theorem sc_at {w : World} {b o : Nat} {v : Value} {c : Array Value} {t : TypeId} {f : Nat × Nat} (h : w.heap[b]? = some (.cells c t f)) : (w.setCell ⟨b, o, none⟩ v).heap[b]? = some (.cells (c.setIfInBounds o v) t f) := by
  simp [World.setCell, Array.getElem?_modify, h]
theorem sc_ne {w : World} {b k o : Nat} {v : Value} (h : k ≠ b) : (w.setCell ⟨b, o, none⟩ v).heap[k]? = w.heap[k]? := by
  simp [World.setCell, Array.getElem?_modify, Ne.symm h]
theorem sc_size {w : World} {a : Addr} {v : Value} : (w.setCell a v).heap.size = w.heap.size := by simp [World.setCell]
theorem cell_b {w : World} {b o : Nat} {c : Array Value} {t : TypeId} {f : Nat × Nat} (h : w.heap[b]? = some (.cells c t f)) : w.cell? ⟨b, o, none⟩ = c[o]? := by
  simp [World.cell?, h]
theorem froz_b {w : World} {b o : Nat} {c : Array Value} {t : TypeId} (h : w.heap[b]? = some (.cells c t (0, 0))) : w.frozen? ⟨b, o, none⟩ = false := by
  simp [World.frozen?, h]

/-- what is not the heap is as it was. -/
def Ro (w w' : World) : Prop := w'.os = w.os ∧ w'.tape = w.tape ∧ w'.output = w.output
theorem Ro.trans {a b c : World} (h : Ro a b) (k : Ro b c) : Ro a c := ⟨k.1.trans h.1, k.2.1.trans h.2.1, k.2.2.trans h.2.2⟩
theorem Ro.of_grown {a b : World} {r : Option Nat} (h : a.grownBy b r) : Ro a b := ⟨h.os, h.tape, h.output⟩
/-- only blocks of S have been turned; the heap may have grown. -/
structure Fr (S : Nat → Prop) (w w' : World) : Prop where
  size : w.heap.size ≤ w'.heap.size
  same : ∀ b, b < w.heap.size → ¬ S b → w'.heap[b]? = w.heap[b]?
  ro : Ro w w'
theorem Fr.refl (S : Nat → Prop) (w : World) : Fr S w w := ⟨Nat.le_refl _, fun _ _ _ => rfl, rfl, rfl, rfl⟩
theorem Fr.trans {S : Nat → Prop} {a b c : World} (h : Fr S a b) (k : Fr S b c) : Fr S a c :=
  ⟨Nat.le_trans h.size k.size, fun x hx hs => (k.same x (Nat.lt_of_lt_of_le hx h.size) hs).trans (h.same x hx hs), h.ro.trans k.ro⟩
theorem Fr.redrawn {S : Nat → Prop} {w w' : World} (h : Fr S w w') (n : Nat) : Fr S w (redrawn w' n) := ⟨h.size, h.same, h.ro⟩

def swp (κ : Nat → Nat) (i j : Nat) : Nat → Nat := fun t => if t = i then κ j else if t = j then κ i else κ t

/-- a heap of n items in the blocks κ 0, κ 1, ..; the row lies in block r, the slice in block p. -/
structure Hp (S : Nat → Prop) (w : World) (p r cap n : Nat) (mv ov : Value) (κ : Nat → Nat) (A O I : Nat → Int) : Prop where
  hd : w.heap[p]? = some (.cells #[.slice (some ⟨r, 0, none⟩) n cap, mv, ov] 53 (0, 0))
  row : ∃ cur : Array Value, w.heap[r]? = some (.cells cur 54 (0, 0)) ∧ cur.size = cap ∧ ∀ i, i < n → cur[i]? = some (.pointer (some ⟨κ i, 0, none⟩))
  nc : n ≤ cap
  cm : cap ≤ maxLen
  it : ∀ i, i < n → w.heap[κ i]? = some (.cells #[.int .i64 (A (κ i)), .int .i64 (O (κ i)), .int .i64 (I (κ i)), .int .i64 (i : Int)] 56 (0, 0))
  inj : ∀ i j, i < n → j < n → κ i = κ j → i = j
  sr : S r
  sk : ∀ i, i < n → S (κ i)
theorem Hp.redrawn {S : Nat → Prop} {w : World} {p r cap n : Nat} {mv ov : Value} {κ : Nat → Nat} {A O I : Nat → Int} (h : Hp S w p r cap n mv ov κ A O I) (m : Nat) : Hp S (redrawn w m) p r cap n mv ov κ A O I :=
  ⟨h.hd, h.row, h.nc, h.cm, h.it, h.inj, h.sr, h.sk⟩
theorem Hp.congr {S : Nat → Prop} {w : World} {p r cap n : Nat} {mv ov : Value} {κ κ' : Nat → Nat} {A O I : Nat → Int} (h : Hp S w p r cap n mv ov κ A O I) (e : ∀ i, i < n → κ' i = κ i) : Hp S w p r cap n mv ov κ' A O I := by
  obtain ⟨cur, h1, h2, h3⟩ := h.row
  refine ⟨h.hd, ⟨cur, h1, h2, fun i hi => by rw [e i hi]; exact h3 i hi⟩, h.nc, h.cm, fun i hi => by rw [e i hi]; exact h.it i hi, fun i j hi hj hh => h.inj i j hi hj (by rw [← e i hi, ← e j hj]; exact hh), h.sr, fun i hi => by rw [e i hi]; exact h.sk i hi⟩
section
variable {S : Nat → Prop} {w : World} {p r cap n : Nat} {mv ov : Value} {κ : Nat → Nat} {A O I : Nat → Int} (h : Hp S w p r cap n mv ov κ A O I)
theorem Hp.kr (h : Hp S w p r cap n mv ov κ A O I) {i : Nat} (hi : i < n) : κ i ≠ r := fun e => by
  obtain ⟨cur, h1, _, _⟩ := h.row
  have := h.it i hi; rw [e, h1] at this; simp at this
theorem Hp.kp (h : Hp S w p r cap n mv ov κ A O I) {i : Nat} (hi : i < n) : κ i ≠ p := fun e => by
  have h1 := h.hd
  have := h.it i hi; rw [e, h1] at this; simp at this
theorem Hp.rp (h : Hp S w p r cap n mv ov κ A O I) : r ≠ p := fun e => by
  obtain ⟨cur, h1, _, _⟩ := h.row
  have h2 := h.hd
  rw [← e, h1] at h2; simp at h2
theorem Hp.cslice (h : Hp S w p r cap n mv ov κ A O I) : w.cell? ⟨p, 0, none⟩ = some (.slice (some ⟨r, 0, none⟩) n cap) := by rw [cell_b h.hd]; rfl
theorem Hp.crow (h : Hp S w p r cap n mv ov κ A O I) {i : Nat} (hi : i < n) : w.cell? ⟨r, i, none⟩ = some (.pointer (some ⟨κ i, 0, none⟩)) := by
  obtain ⟨cur, h1, _, h3⟩ := h.row
  rw [cell_b h1]; exact h3 i hi
theorem Hp.cat (h : Hp S w p r cap n mv ov κ A O I) {i : Nat} (hi : i < n) : w.cell? ⟨κ i, 0, none⟩ = some (.int .i64 (A (κ i))) := by rw [cell_b (h.it i hi)]; rfl
theorem Hp.cor (h : Hp S w p r cap n mv ov κ A O I) {i : Nat} (hi : i < n) : w.cell? ⟨κ i, 1, none⟩ = some (.int .i64 (O (κ i))) := by rw [cell_b (h.it i hi)]; rfl
theorem Hp.cid (h : Hp S w p r cap n mv ov κ A O I) {i : Nat} (hi : i < n) : w.cell? ⟨κ i, 2, none⟩ = some (.int .i64 (I (κ i))) := by rw [cell_b (h.it i hi)]; rfl
theorem Hp.cpl (h : Hp S w p r cap n mv ov κ A O I) {i : Nat} (hi : i < n) : w.cell? ⟨κ i, 3, none⟩ = some (.int .i64 (i : Int)) := by rw [cell_b (h.it i hi)]; rfl
theorem Hp.frow (h : Hp S w p r cap n mv ov κ A O I) (o : Nat) : w.frozen? ⟨r, o, none⟩ = false := by
  obtain ⟨cur, h1, _, _⟩ := h.row
  exact froz_b h1
theorem Hp.fit (h : Hp S w p r cap n mv ov κ A O I) {i : Nat} (hi : i < n) (o : Nat) : w.frozen? ⟨κ i, o, none⟩ = false := froz_b (h.it i hi)
end
theorem Hp.swap {S : Nat → Prop} {w : World} {p r cap n : Nat} {mv ov : Value} {κ : Nat → Nat} {A O I : Nat → Int} (h : Hp S w p r cap n mv ov κ A O I) {i j : Nat} (hi : i < n) (hj : j < n) (hij : i ≠ j) (m : Nat) :
    Hp S (Go.redrawn ((((w.setCell ⟨r, i, none⟩ (.pointer (some ⟨κ j, 0, none⟩))).setCell ⟨r, j, none⟩ (.pointer (some ⟨κ i, 0, none⟩))).setCell ⟨κ j, 3, none⟩ (.int .i64 (i : Int))).setCell ⟨κ i, 3, none⟩ (.int .i64 (j : Int))) m) p r cap n mv ov (swp κ i j) A O I ∧
    Fr S w (Go.redrawn ((((w.setCell ⟨r, i, none⟩ (.pointer (some ⟨κ j, 0, none⟩))).setCell ⟨r, j, none⟩ (.pointer (some ⟨κ i, 0, none⟩))).setCell ⟨κ j, 3, none⟩ (.int .i64 (i : Int))).setCell ⟨κ i, 3, none⟩ (.int .i64 (j : Int))) m) := by
  have e1 := h.kr hi; have e2 := h.kr hj; have e3 := h.kp hi; have e4 := h.kp hj; have e5 := h.rp
  have e6 : κ i ≠ κ j := fun e => hij (h.inj i j hi hj e)
  obtain ⟨cur, h1, h2, h3⟩ := h.row
  constructor
  · refine Hp.redrawn ⟨?_, ⟨(cur.setIfInBounds i (.pointer (some ⟨κ j, 0, none⟩))).setIfInBounds j (.pointer (some ⟨κ i, 0, none⟩)), ?_, by simpa using h2, ?_⟩, h.nc, h.cm, ?_, ?_, h.sr, ?_⟩ m
    · rw [sc_ne e3.symm, sc_ne e4.symm, sc_ne e5.symm, sc_ne e5.symm]; exact h.hd
    · rw [sc_ne e1.symm, sc_ne e2.symm]; exact sc_at (sc_at h1)
    · intro t ht
      have hc := h.nc
      unfold swp
      by_cases t1 : t = i
      · subst t1
        rw [Array.getElem?_setIfInBounds_ne (by omega), if_pos rfl, Array.getElem?_setIfInBounds_self_of_lt (by omega)]
      · by_cases t2 : t = j
        · subst t2
          rw [if_neg t1, if_pos rfl, Array.getElem?_setIfInBounds_self_of_lt (by simp; omega)]
        · rw [if_neg t1, if_neg t2, Array.getElem?_setIfInBounds_ne (by omega), Array.getElem?_setIfInBounds_ne (by omega)]
          exact h3 t ht
    · intro t ht
      unfold swp
      by_cases t1 : t = i
      · subst t1
        rw [if_pos rfl, sc_ne e6.symm]
        rw [sc_at (c := #[.int .i64 (A (κ j)), .int .i64 (O (κ j)), .int .i64 (I (κ j)), .int .i64 (j : Int)]) (t := 56) (f := (0, 0)) (by rw [sc_ne e2, sc_ne e2]; exact h.it j hj)]
        rfl
      · by_cases t2 : t = j
        · subst t2
          rw [if_neg t1, if_pos rfl]
          rw [sc_at (c := #[.int .i64 (A (κ i)), .int .i64 (O (κ i)), .int .i64 (I (κ i)), .int .i64 (i : Int)]) (t := 56) (f := (0, 0)) (by rw [sc_ne e6, sc_ne e1, sc_ne e1]; exact h.it i hi)]
          rfl
        · rw [if_neg t1, if_neg t2, sc_ne (fun e => t1 (h.inj t i ht hi e)), sc_ne (fun e => t2 (h.inj t j ht hj e)), sc_ne (h.kr ht), sc_ne (h.kr ht)]
          exact h.it t ht
    · intro a b ha hb hab
      unfold swp at hab
      have := h.inj
      split at hab <;> split at hab <;> (try split at hab) <;> (try split at hab) <;> first
        | omega
        | (have := h.inj _ _ (by omega) (by omega) hab; omega)
    · intro t ht
      unfold swp
      split
      · exact h.sk _ hj
      · split
        · exact h.sk _ hi
        · exact h.sk _ ht
  · refine Fr.redrawn ?_ m
    refine ⟨by simp only [sc_size]; exact Nat.le_refl _, fun b hb hs => ?_, rfl, rfl, rfl⟩
    have b1 : b ≠ r := fun e => hs (e ▸ h.sr)
    have b2 : b ≠ κ i := fun e => hs (e ▸ h.sk i hi)
    have b3 : b ≠ κ j := fun e => hs (e ▸ h.sk j hj)
    rw [sc_ne b2, sc_ne b3, sc_ne b1, sc_ne b1]
theorem Hp.same {S : Nat → Prop} {w : World} {p r cap n : Nat} {mv ov : Value} {κ : Nat → Nat} {A O I : Nat → Int} (h : Hp S w p r cap n mv ov κ A O I) {i : Nat} (hi : i < n) (m : Nat) :
    Hp S (Go.redrawn ((((w.setCell ⟨r, i, none⟩ (.pointer (some ⟨κ i, 0, none⟩))).setCell ⟨r, i, none⟩ (.pointer (some ⟨κ i, 0, none⟩))).setCell ⟨κ i, 3, none⟩ (.int .i64 (i : Int))).setCell ⟨κ i, 3, none⟩ (.int .i64 (i : Int))) m) p r cap n mv ov (swp κ i i) A O I ∧
    Fr S w (Go.redrawn ((((w.setCell ⟨r, i, none⟩ (.pointer (some ⟨κ i, 0, none⟩))).setCell ⟨r, i, none⟩ (.pointer (some ⟨κ i, 0, none⟩))).setCell ⟨κ i, 3, none⟩ (.int .i64 (i : Int))).setCell ⟨κ i, 3, none⟩ (.int .i64 (i : Int))) m) := by
  have e1 := h.kr hi; have e3 := h.kp hi; have e5 := h.rp
  obtain ⟨cur, h1, h2, h3⟩ := h.row
  constructor
  · refine Hp.congr (κ := κ) ?_ (fun t ht => by unfold swp; split <;> simp_all)
    refine Hp.redrawn ⟨?_, ⟨(cur.setIfInBounds i (.pointer (some ⟨κ i, 0, none⟩))).setIfInBounds i (.pointer (some ⟨κ i, 0, none⟩)), ?_, by simpa using h2, ?_⟩, h.nc, h.cm, ?_, h.inj, h.sr, h.sk⟩ m
    · rw [sc_ne e3.symm, sc_ne e3.symm, sc_ne e5.symm, sc_ne e5.symm]; exact h.hd
    · rw [sc_ne e1.symm, sc_ne e1.symm]; exact sc_at (sc_at h1)
    · intro t ht
      have hc := h.nc
      by_cases t1 : t = i
      · subst t1
        rw [Array.getElem?_setIfInBounds_self_of_lt (by simp; omega)]
      · rw [Array.getElem?_setIfInBounds_ne (by omega), Array.getElem?_setIfInBounds_ne (by omega)]
        exact h3 t ht
    · intro t ht
      by_cases t1 : t = i
      · subst t1
        rw [sc_at (sc_at (c := #[.int .i64 (A (κ t)), .int .i64 (O (κ t)), .int .i64 (I (κ t)), .int .i64 (t : Int)]) (t := 56) (f := (0, 0)) (by rw [sc_ne e1, sc_ne e1]; exact h.it t ht))]
        rfl
      · rw [sc_ne (fun e => t1 (h.inj t i ht hi e)), sc_ne (fun e => t1 (h.inj t i ht hi e)), sc_ne (h.kr ht), sc_ne (h.kr ht)]
        exact h.it t ht
  · refine Fr.redrawn ?_ m
    refine ⟨by simp only [sc_size]; exact Nat.le_refl _, fun b hb hs => ?_, rfl, rfl, rfl⟩
    have b1 : b ≠ r := fun e => hs (e ▸ h.sr)
    have b2 : b ≠ κ i := fun e => hs (e ▸ h.sk i hi)
    rw [sc_ne b2, sc_ne b2, sc_ne b1, sc_ne b1]
/-- Swap, of a heap. -/
theorem Swap_h {S : Nat → Prop} {w : World} {p r cap n : Nat} {mv ov : Value} {κ : Nat → Nat} {A O I : Nat → Int} (h : Hp S w p r cap n mv ov κ A O I) {i j : Nat} (hi : i < n) (hj : j < n) :
    Calls Try.prog 42 #[.slice (some ⟨r, 0, none⟩) n cap, .int .i64 (i : Int), .int .i64 (j : Int)] w fun e w' => e = .returned (.tuple #[]) ∧ Hp S w' p r cap n mv ov (swp κ i j) A O I ∧ Fr S w w' := by
  by_cases hij : i = j
  · subst hij
    refine (Swap_same r i n cap (κ i) _ hi (h.kr hi).symm w (h.crow hi) (h.cpl hi) (h.frow _) (h.fit hi _)).mono ?_
    rintro e w' ⟨rfl, m, rfl⟩
    exact ⟨rfl, h.same hi m⟩
  · refine (Swap_c r i j n cap (κ i) (κ j) _ _ hi hj hij (fun e => hij (h.inj i j hi hj e)) (h.kr hi).symm (h.kr hj).symm w (h.crow hi) (h.crow hj) (h.cpl hi) (h.cpl hj) (h.frow _) (h.frow _) (h.fit hi _) (h.fit hj _)).mono ?_
    rintro e w' ⟨rfl, m, rfl⟩
    exact ⟨rfl, h.swap hi hj hij m⟩
theorem Less_h {S : Nat → Prop} {w : World} {p r cap n : Nat} {mv ov : Value} {κ : Nat → Nat} {A O I : Nat → Int} (h : Hp S w p r cap n mv ov κ A O I) {i j : Nat} (hi : i < n) (hj : j < n) :
    Calls Try.prog 41 #[.slice (some ⟨r, 0, none⟩) n cap, .int .i64 (i : Int), .int .i64 (j : Int)] w fun e w' => e = .returned (.bool (earlier (A (κ i)) (O (κ i)) (A (κ j)) (O (κ j)))) ∧ ∃ n, w' = Go.redrawn w n :=
  Less_c r i j n cap (κ i) (κ j) _ _ _ _ hi hj w (h.crow hi) (h.crow hj) (h.cat hi) (h.cat hj) (h.cor hi) (h.cor hj)
/-! how the methods of the interface are reached -/
theorem run_method_own {P : Program} (w : World) (t : TypeId) (x : Value) (name : String) (fuel f : Nat) (b : Bool) (i : TypeInfo) (m : Method) (hi : P.info? t = some i) (hm : i.methods.find? (·.name == name) = some m) (hp : m.path = #[]) (hf : m.func = some (f, b)) (v : Value) (w' : World)
    (hr : (receiverAt t (.val x) b (some ((name.splitOn ".").getLastD name))).run P w = .ok v w') : Sem.run P (method (fuel + 1) t x name) w = .ok (f, v) w' := by
  unfold method
  have hr' : (receiverAt t (.val x) b (some ((name.splitOn ".").getLast?.getD name))).run P w = .ok v w' := by simpa using hr
  simp [typeInfo, hi, hm, hp, hf, follow, hr']
theorem mv (w : World) (p : Nat) (v : Value) (nm : String) (h : w.cell? ⟨p, 0, none⟩ = some v) : (receiverAt 58 (.val (.pointer (some ⟨p, 0, none⟩))) false (some nm)).run Try.prog w = .ok v w := by
  have hu : Try.prog.underlying 58 = some (.pointer 51) := by kernel_rfl
  have hv : Try.prog.underlying 51 = some (.slice 54) := by kernel_rfl
  have hs : (Builtin.ssaWrapNilChk_ #[58] 58 #[.pointer (some ⟨p, 0, none⟩), strVal "", strVal nm]).run Try.prog w = .ok (.pointer (some ⟨p, 0, none⟩)) w := rfl
  have ha : (isAgg 51).run Try.prog w = .ok false w := by kernel_rfl
  have hl : (loadVar 51 ⟨p, 0, none⟩).run Try.prog w = .ok v w := by simp [loadVar, ha, h]
  unfold receiverAt
  simp only [Sem.run_bind, run_underlying hu, Result.andThen_ok, Place.get, Sem.run_pure, hs, asAddr, hl]
theorem mLess (w : World) (p : Nat) (v : Value) (h : w.cell? ⟨p, 0, none⟩ = some v) : Sem.run Try.prog (method 184 58 (.pointer (some ⟨p, 0, none⟩)) "Less") w = .ok (41, v) w :=
  run_method_own w 58 _ "Less" 183 _ false _ _ rfl rfl rfl rfl v w (mv w p v _ h)
theorem mSwap (w : World) (p : Nat) (v : Value) (h : w.cell? ⟨p, 0, none⟩ = some v) : Sem.run Try.prog (method 184 58 (.pointer (some ⟨p, 0, none⟩)) "Swap") w = .ok (42, v) w :=
  run_method_own w 58 _ "Swap" 183 _ false _ _ rfl rfl rfl rfl v w (mv w p v _ h)
theorem mLen (w : World) (p : Nat) (v : Value) (h : w.cell? ⟨p, 0, none⟩ = some v) : Sem.run Try.prog (method 184 58 (.pointer (some ⟨p, 0, none⟩)) "Len") w = .ok (40, v) w :=
  run_method_own w 58 _ "Len" 183 _ false _ _ rfl rfl rfl rfl v w (mv w p v _ h)
theorem mPush (w : World) (x : Value) : Sem.run Try.prog (method 184 58 x "Push") w = .ok (44, x) w :=
  run_method_own w 58 _ "Push" 183 _ true _ _ rfl rfl rfl rfl x w (by kernel_rfl)
theorem mPop (w : World) (x : Value) : Sem.run Try.prog (method 184 58 x "Pop") w = .ok (43, x) w :=
  run_method_own w 58 _ "Pop" 183 _ true _ _ rfl rfl rfl rfl x w (by kernel_rfl)
end Go.Proofs.Ytlaagbnclkhbjaa
