/- Intent: reaching; what is wanted; an append onto a full row. -/
import Derived.Test.YtgebehnlfihliaaIn12
import Derived.Test.YtgebehnlfihliaaIn10
import Derived.Test.YtgebehnlfihliaaTFar3
import Derived.Deep.AppendLies
import Derived.Deep.AppendSrc
namespace Go.Proofs.Ytgebehnlfihliaa
open Go.RowKit Go.Maps
set_option linter.unusedSimpArgs false
set_option linter.unusedVariables false
set_option maxRecDepth 100000
/-- the address that a header is for. -/
def n32 (X : BitVec 128) : Nat := (Plain.loOf X).toNat % 2 ^ 32
theorem n32_get (X : BitVec 128) : (Plain.loOf (X >>> (0 : Int).toNat &&& Plain.low (32 : Int).toNat)).toNat = n32 X := by
  unfold n32
  apply Nat.eq_of_testBit_eq
  intro i
  rw [Nat.testBit_mod_two_pow, ← BitVec.getLsbD, ← BitVec.getLsbD, Plain.loOf_bit, Plain.loOf_bit]
  simp only [BitVec.getLsbD_and, BitVec.getLsbD_ushiftRight, Plain.low_bit]
  by_cases h : i < 32
  · have h2 : i < 64 := by omega
    have h3 : i < 128 := by omega
    simp [h, h2, h3]
  · simp [h]
theorem n32_tn (X : BitVec 128) : Plain.tn X.getLsbD (0 + 32) 32 = n32 X := by
  unfold n32
  apply Nat.eq_of_testBit_eq
  intro i
  rw [Nat.testBit_mod_two_pow, ← BitVec.getLsbD, Plain.loOf_bit, Plain.tn_bit _ _ _ (by omega)]
  by_cases h : i < 32
  · have h2 : i < 64 := by omega
    simp [h, h2]
  · simp [h]
/-- the distances from a switch. -/
noncomputable def farD (T : Tp) (a : Nat) : Nat → Int := Classical.epsilon fun d => IsFar (Lk T) a d
theorem farD_is {T : Tp} (h : Sd T) (a : Nat) : IsFar (Lk T) a (farD T a) := Classical.epsilon_spec (far_ex (lk_cost h) a)
noncomputable def rch (T : Tp) (a b : Int) : Bool := decide (0 ≤ farD T a.toNat b.toNat)
theorem reaches_c {o : Option Addr} {cap : Nat} {T : Tp} {w : World} (h : TA w o cap T) (hs : soundE T = 0) (a b : Nat) (ha : a < T.n) (hb : b < T.n) :
    Calls Try.prog 64 #[.agg #[.slice o T.n cap], .int .i64 (a : Int), .int .i64 (b : Int)] w fun e w' => e = .returned (.bool (rch T a b)) ∧ RowKit.Below w.heap.size w w' := by
  have hba := (Below.refl w.heap.size w).alloc (Nat.le_refl _) (.cells #[.slice o T.n cap] 24)
  have hc := tfar_ok (h.below hba) hs a ha _ (farD_is (sd_of hs) a)
  have hn6 := (sd_of hs).n6
  have hr : Hid (rch T a b = decide (0 ≤ farD T a b)) := rfl
  obtain ⟨q, hq⟩ : ∃ q, Hid (rch T (a : Int) (b : Int) = q) := ⟨_, rfl⟩
  rw [hq.out] at hr ⊢
  go_enter Try.func64, Try.ntmps64
  go_wp2_with fail
  refine hc.mono ?_
  rintro e w1 ⟨g, rfl, hia, hg, hb1⟩
  have hbb := hba.trans (hb1.mono hba.size)
  have hbI : (b : Int) < (T.n : Int) := by omega
  have e1 := hia.cell hb
  have hd : decide (0 ≤ farD T a b) = q := hr.out.symm
  generalize farD T a b = z at e1 hd
  clear hia hr
  go_wp2_with fail
  all_goals go_ret
  all_goals exact ⟨by simp [*], hbb⟩
/-- is there a way along the switches? -/
noncomputable def chainB (T : Tp) : Int → List Int → Bool
  | _, [] => true
  | a, b :: l => rch T a b && chainB T b l
noncomputable def wok (I : In) (sw po : Int) (X : BitVec 128) (k : Nat) : Bool :=
  (alB I (edgeF I.T sw po) (I.en k).ten && Hd.perB I X) && chainB I.T sw (viaL I (edgeF I.T sw po) (I.en k).ten I.nw ++ [(I.en k).sw])
def adB (I : In) (X : BitVec 128) (k : Nat) : Bool := decide ((I.en k).addr = (n32 X : Int))
/-- the endpoint to which a header is to be delivered. -/
noncomputable def wnt (I : In) (sw po : Int) (X : BitVec 128) : Int × Bool :=
  if soundI I ≠ 0 ∨ edgeF I.T sw po < 0 then (0, false)
  else if fidx (adB I X) I.ne < 0 then (0, false)
  else if wok I sw po X (fidx (adB I X) I.ne).toNat = true then (fidx (adB I X) I.ne, true) else (0, false)
theorem step_app_full {P : Program} {w : World} {ops : Array Oper} {o : Oper} {a : Act} {K : Act → World → Prop} {Q : Exit → Act → World → Prop} {E : Prop} (hgd : o.guard = none) (s x : Operand) (t : TypeId)
    (ho : o.op = .call { callee := .builtin .append, args := #[s, x], argTypes := #[t, t] }) (e : TypeId) (i : TypeInfo) (z : Value) (ht : P.underlying t = some (.slice e)) (hi : P.info? e = some i) (hz : i.zero = some z)
    (hsize : i.size = 1) (hby : i.bytes = 8) (hzs : z.cells.size = 1) (ao : Option Addr) (l : List Int) (hs : a.eval s = .slice ao l.length l.length) (hold : 0 < l.length → ∃ g, ao = some ⟨g, 0, none⟩ ∧ ∀ j, (hj : j < l.length) → w.cell? ⟨g, j, none⟩ = some (.int .i64 l[j]))
    (h0 : l.length = 0 → ao = none) (gx : Nat) (y : Int) (hx : a.eval x = .slice (some ⟨gx, 0, none⟩) 1 1) (hc : w.cell? ⟨gx, 0, none⟩ = some (.int .i64 y)) (hl : l.length ≤ 1000000) (d : Tmp) (hd : o.dst = some d)
    (h : ∀ g c w', RowKit.Below w.heap.size w w' → (∀ j, (hj : j < (l ++ [y]).length) → w'.cell? ⟨g, j, none⟩ = some (.int .i64 (l ++ [y])[j])) → K (a.put (some d) (.slice (some ⟨g, 0, none⟩) (l.length + 1) c)) w') :
    if Region.wanted o (yielded ops a.tmps) = true then Oper.wp P o a w K Q else E := by
  have hw : Region.wanted o (yielded ops a.tmps) = true := by simp [Region.wanted, hgd]
  rw [if_pos hw]
  have hold2 : (Builtin.firstCells i.size l.length (.slice ao l.length l.length)).run P w.drew = .ok (ints l).toArray w.drew := by
    rw [hsize]
    rcases Nat.eq_zero_or_pos l.length with h1 | h1
    · rw [h0 h1, List.length_eq_zero_iff.1 h1]
      exact run_firstCells_none w.drew 1 0 0 0
    · obtain ⟨g, rfl, hg⟩ := hold h1
      exact run_firstCells_some w.drew 1 l.length ⟨g, 0, none⟩ l.length l.length (ints l) (by rw [ints_len, Nat.mul_one]) (fun j v hv => by
        have hj : j < l.length := by
          have := (List.getElem?_eq_some_iff.1 hv).1
          rwa [ints_len] at this
        rw [Addr.add_lit]
        show w.cell? _ = _
        rw [Nat.zero_add, hg j hj]
        simp [ints, hj] at hv
        rw [← hv])
  have hsrc : Src P i.size t (.slice (some ⟨gx, 0, none⟩) 1 1) 1 [.int .i64 y] w := by
    rw [hsize]
    refine Src.ofSlice w ht ⟨gx, 0, none⟩ 1 1 [.int .i64 y] rfl (fun j u hu => ?_) (fun u hu => by simp at hu; rw [hu]; rfl)
    rcases j with _ | j
    · simp at hu; rw [Addr.add_lit, ← hu]; exact hc
    · simp at hu
  have hr := run_append_grow_src (P := P) w t t o.type e i z ht hi hz ao l.length l.length (ints l) hold2 _ 1 [.int .i64 y] hsrc (by omega) (by omega) (growslice_fits (by omega) (by rw [hby]; omega))
  unfold Oper.wp execOp
  simp only [ho, resolve, invoke, builtin, Sem.run_bind, Sem.run_pure, Result.andThen_ok, List.map_toArray, List.map_cons, List.map_nil, hs, hx, hr]
  show K (a.put o.dst _) _
  rw [hd]
  refine h _ _ _ ((RowKit.Below.drew (Below.refl _ _)).alloc (Nat.le_refl _) _) (fun j hj => ?_)
  rw [show ∀ (o : Obj), (w.drew.alloc o).cell? ⟨w.heap.size, j, none⟩ = (w.alloc o).cell? ⟨w.heap.size, j, none⟩ from fun _ => rfl, cell_b (heap_alloc_new w _)]
  have hj2 : j < (ints l ++ [Value.int .i64 y]).length := by simpa [ints] using hj
  rw [Array.getElem?_append_left (by simpa using hj2)]
  rw [List.getElem?_toArray, List.getElem?_eq_getElem hj2]
  simp only [ints, Option.some.injEq]
  by_cases hjl : j < l.length
  · rw [List.getElem_append_left (by simpa using hjl), List.getElem_append_left hjl]; simp
  · rw [List.getElem_append_right (by simpa using hjl), List.getElem_append_right (by omega)]; simp
end Go.Proofs.Ytgebehnlfihliaa
