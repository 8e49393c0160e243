/- Topo: how the queue's methods are reached; heap.up, heap.down. -/
import Derived.Test.YtgebehnlfihliaaTHeap1
namespace Go.Proofs.Ytgebehnlfihliaa
open Go.RowKit
set_option linter.unusedSimpArgs false
set_option linter.unusedVariables false
set_option maxRecDepth 100000
theorem run_method_own {P : Program} (w : World) (t : TypeId) (x : Value) (name : String) (fuel f : Nat) (b : Bool) (i : TypeInfo) (m : Method) (hi : P.info? t = some i) (hm : i.methods.find? (·.name == name) = some m) (hp : m.path = #[]) (hf : m.func = some (f, b)) (v : Value) (w' : World)
    (hr : (receiverAt t (.val x) b (some ((name.splitOn ".").getLastD name))).run P w = .ok v w') : Sem.run P (method (fuel + 1) t x name) w = .ok (f, v) w' := by
  unfold method
  have hr' : (receiverAt t (.val x) b (some ((name.splitOn ".").getLast?.getD name))).run P w = .ok v w' := by simpa using hr
  simp [typeInfo, hi, hm, hp, hf, follow, hr']
theorem mv (w : World) (p : Nat) (v : Value) (nm : String) (h : w.cell? ⟨p, 0, none⟩ = some v) : (receiverAt 78 (.val (.pointer (some ⟨p, 0, none⟩))) false (some nm)).run Try.prog w = .ok v w := by
  have hu : Try.prog.underlying 78 = some (.pointer 82) := by kernel_rfl
  have hv : Try.prog.underlying 82 = some (.slice 80) := by kernel_rfl
  have hs : (Builtin.ssaWrapNilChk_ #[78] 78 #[.pointer (some ⟨p, 0, none⟩), strVal "", strVal nm]).run Try.prog w = .ok (.pointer (some ⟨p, 0, none⟩)) w := rfl
  have ha : (isAgg 82).run Try.prog w = .ok false w := by kernel_rfl
  have hl : (loadVar 82 ⟨p, 0, none⟩).run Try.prog w = .ok v w := by simp [loadVar, ha, h]
  unfold receiverAt
  simp only [Sem.run_bind, run_underlying hu, Result.andThen_ok, Place.get, Sem.run_pure, hs, asAddr, hl]
theorem mLess (w : World) (p : Nat) (v : Value) (h : w.cell? ⟨p, 0, none⟩ = some v) : Sem.run Try.prog (method 266 78 (.pointer (some ⟨p, 0, none⟩)) "Less") w = .ok (119, v) w :=
  run_method_own w 78 _ "Less" 265 _ false _ _ rfl rfl rfl rfl v w (mv w p v _ h)
theorem mSwap (w : World) (p : Nat) (v : Value) (h : w.cell? ⟨p, 0, none⟩ = some v) : Sem.run Try.prog (method 266 78 (.pointer (some ⟨p, 0, none⟩)) "Swap") w = .ok (122, v) w :=
  run_method_own w 78 _ "Swap" 265 _ false _ _ rfl rfl rfl rfl v w (mv w p v _ h)
theorem mLen (w : World) (p : Nat) (v : Value) (h : w.cell? ⟨p, 0, none⟩ = some v) : Sem.run Try.prog (method 266 78 (.pointer (some ⟨p, 0, none⟩)) "Len") w = .ok (34, v) w :=
  run_method_own w 78 _ "Len" 265 _ false _ _ rfl rfl rfl rfl v w (mv w p v _ h)
theorem mPush (w : World) (x : Value) : Sem.run Try.prog (method 266 78 x "Push") w = .ok (121, x) w :=
  run_method_own w 78 _ "Push" 265 _ true _ _ rfl rfl rfl rfl x w (by kernel_rfl)
theorem mPop (w : World) (x : Value) : Sem.run Try.prog (method 266 78 x "Pop") w = .ok (120, x) w :=
  run_method_own w 78 _ "Pop" 265 _ true _ _ rfl rfl rfl rfl x w (by kernel_rfl)
/-- where an item goes up from place j. -/
def upF {α : Type} (B : α → α → Bool) (κ : Nat → α) (j : Nat) : Nat → α :=
  if j = 0 then κ else if B (κ j) (κ ((j - 1) / 2)) = true then upF B (swp κ ((j - 1) / 2) j) ((j - 1) / 2) else κ
termination_by j
decreasing_by omega
def bf (a b : Int × Int) : Bool := decide (a.2 < b.2)
set_option maxHeartbeats 1000000 in
theorem up_c {w : World} {p r cap n : Nat} {κ : Nat → Int × Int} (h : Qp w p r cap n κ) (j : Nat) (hj : j < n) :
    Calls Try.prog 69 #[.iface 78 (.pointer (some ⟨p, 0, none⟩)), .int .i64 (j : Int)] w fun e w' => e = .returned (.tuple #[]) ∧ Qp w' p r cap n (upF bf κ j) ∧ Fr (fun b => b = r) w w' := by
  have hcm : cap ≤ maxLen := h.cm
  simp only [maxLen] at hcm
  have hnc : n ≤ cap := h.nc
  go_enter Try.func69, Try.ntmps69
  go_wp2_with fail
  go_loopw [1] (fun vj wr => ∃ (j' : Nat) (κ' : Nat → Int × Int), vj = .int .i64 (j' : Int) ∧ j' < n ∧ Qp wr p r cap n κ' ∧ Fr (fun b => b = r) w wr ∧ upF bf κ' j' = upF bf κ j) (fun vj _ => (intOf vj).toNat)
  case atStart => exact ⟨j, κ, rfl, hj, h, Fr.refl _ _, rfl⟩
  case round =>
    obtain ⟨j', κ', rfl, hj', h', hf, he⟩ := hrel
    by_cases hz : j' = 0
    · subst hz
      go_wp2
      go_end0
      refine ⟨rfl, ?_, hf⟩
      rw [← he, upF, if_pos rfl]
      exact h'
    · obtain ⟨i, hi⟩ : ∃ i, i = (j' - 1) / 2 := ⟨_, rfl⟩
      have hq : Int.tdiv ((j' : Int) - 1) 2 = (i : Int) := by rw [Int.tdiv_eq_ediv_of_nonneg (by omega)]; omega
      have hne : ¬ ((i : Int) = (j' : Int)) := by omega
      have hi2 : i < j' := by omega
      have HI := Lib.hid hi
      clear hi
      have mL := mLess wr p _ h'.cslice
      have mS := fun q => mSwap (redrawn wr q) p _ h'.cslice
      go_wp2_with fail
      refine (qLess_h h' (i := j') (j := i) hj' (by omega)).mono ?_
      rintro e w1 ⟨rfl, q, rfl⟩
      by_cases hb : bf (κ' j') (κ' i) = true
      · have hb' : decide ((κ' j').2 < (κ' i).2) = true := hb
        rw [hb']
        go_wp2_with fail
        refine (qSwap_h (h'.redrawn q) (i := i) (j := j') (by omega) hj').mono ?_
        rintro e w2 ⟨rfl, h2, hf2⟩
        go_wp2_with fail
        go_round
        case rel => exact ⟨i, _, rfl, by omega, h2, hf.trans (((Fr.refl (fun b => b = r) _).redrawn q).trans hf2), by rw [← he, upF.eq_def _ _ j', if_neg hz, ← HI.out, if_pos hb]⟩
        case measure => simp [intOf]; omega
      · have hb' : decide ((κ' j').2 < (κ' i).2) = false := by rw [Bool.not_eq_true] at hb; exact hb
        rw [hb']
        go_wp2
        go_end0
        refine ⟨rfl, ?_, hf.redrawn q⟩
        rw [← he, upF, if_neg hz, ← HI.out, if_neg hb]
        exact h'.redrawn q
/-- where an item goes down from place i; and the place it comes to. -/
def dnF {α : Type} (B : α → α → Bool) (m : Nat) : Nat → (Nat → α) → Nat → (Nat → α) × Nat
  | 0, κ, i => (κ, i)
  | fuel + 1, κ, i =>
    if m ≤ 2 * i + 1 then (κ, i) else
      let j := if 2 * i + 2 < m ∧ B (κ (2 * i + 2)) (κ (2 * i + 1)) = true then 2 * i + 2 else 2 * i + 1
      if B (κ j) (κ i) = true then dnF B m fuel (swp κ i j) j else (κ, i)
theorem dn_two {α : Type} {B : α → α → Bool} {m f i : Nat} {κ : Nat → α} (hz : ¬ m ≤ 2 * i + 1) (hc : 2 * i + 2 < m) (hb : B (κ (2 * i + 2)) (κ (2 * i + 1)) = true) : dnF B m (f + 1) κ i = if B (κ (2 * i + 2)) (κ i) = true then dnF B m f (swp κ i (2 * i + 2)) (2 * i + 2) else (κ, i) := by
  simp only [dnF, if_neg hz, hc, hb, and_self, if_true]
theorem dn_one {α : Type} {B : α → α → Bool} {m f i : Nat} {κ : Nat → α} (hz : ¬ m ≤ 2 * i + 1) (hc : ¬ (2 * i + 2 < m ∧ B (κ (2 * i + 2)) (κ (2 * i + 1)) = true)) : dnF B m (f + 1) κ i = if B (κ (2 * i + 1)) (κ i) = true then dnF B m f (swp κ i (2 * i + 1)) (2 * i + 1) else (κ, i) := by
  simp only [dnF, if_neg hz, if_neg hc]
set_option maxHeartbeats 2000000 in
theorem down_c {w : World} {p r cap n : Nat} {κ : Nat → Int × Int} (h : Qp w p r cap n κ) (i0 m : Nat) (hi0 : i0 ≤ m) (hm : m ≤ n) (hsm : n ≤ 1000000000) :
    Calls Try.prog 68 #[.iface 78 (.pointer (some ⟨p, 0, none⟩)), .int .i64 (i0 : Int), .int .i64 (m : Int)] w fun e w' => e = .returned (.bool (decide (i0 < (dnF bf m m κ i0).2))) ∧ Qp w' p r cap n (dnF bf m m κ i0).1 ∧ Fr (fun b => b = r) w w' := by
  have hnc : n ≤ cap := h.nc
  go_enter Try.func68, Try.ntmps68
  go_wp2_with fail
  go_loopw [7] (fun vj wr => ∃ (i fuel : Nat) (κ' : Nat → Int × Int), vj = .int .i64 (i : Int) ∧ i ≤ m ∧ m ≤ i + fuel ∧ Qp wr p r cap n κ' ∧ Fr (fun b => b = r) w wr ∧ dnF bf m fuel κ' i = dnF bf m m κ i0) (fun vj _ => m - (intOf vj).toNat)
  case atStart => exact ⟨i0, m, κ, rfl, hi0, by omega, h, Fr.refl _ _, rfl⟩
  case round =>
    obtain ⟨i, fuel, κ', rfl, hi, hfu, h', hf, he⟩ := hrel
    have HE := Lib.hid he
    clear he
    by_cases hz : m ≤ 2 * i + 1
    · have ez : dnF bf m fuel κ' i = (κ', i) := by cases fuel with
        | zero => rfl
        | succ f => rw [dnF, if_pos hz]
      have ez2 : (κ', i) = dnF bf m m κ i0 := by rw [← ez]; exact HE.out
      have e1 : Hid ((dnF bf m m κ i0).1 = κ') := by rw [← ez2]; exact rfl
      have e2 : Hid ((dnF bf m m κ i0).2 = i) := by rw [← ez2]; exact rfl
      clear ez ez2
      go_wp2_with fail
      go_ret
      refine ⟨by rw [e2.out]; rfl, ?_, hf⟩
      rw [e1.out]; exact h'
    · obtain ⟨f, rfl⟩ : ∃ f, fuel = f + 1 := ⟨fuel - 1, by omega⟩
      have mL := fun q => mLess (redrawn wr q) p _ h'.cslice
      have hrr : ∀ (w : World) (a b : Nat), redrawn (redrawn w a) b = redrawn w b := fun _ _ _ => rfl
      have mL0 := mLess wr p _ h'.cslice
      have mS := fun q => mSwap (redrawn wr q) p _ h'.cslice
      have hiz : i < n := by omega
      by_cases hc : 2 * i + 2 < m
      · go_wp2_with fail
        have hL := qLess_h h' (i := 2 * i + 2) (j := 2 * i + 1) (by omega) (by omega)
        rw [show (((2 * i + 2 : Nat)) : Int) = 2 * (i : Int) + 1 + 1 by omega, show (((2 * i + 1 : Nat)) : Int) = 2 * (i : Int) + 1 by omega] at hL
        refine hL.mono ?_
        rintro e w1 ⟨rfl, q, rfl⟩
        by_cases hb : bf (κ' (2 * i + 2)) (κ' (2 * i + 1)) = true
        · have hb' : decide ((κ' (2 * i + 2)).2 < (κ' (2 * i + 1)).2) = true := hb
          rw [hb']
          have ED : Hid (dnF bf m m κ i0 = if bf (κ' (2 * i + 2)) (κ' i) = true then dnF bf m f (swp κ' i (2 * i + 2)) (2 * i + 2) else (κ', i)) := by
            have := HE.out; rw [← this, dn_two hz hc hb]; exact rfl
          clear HE
          go_wp2_with fail
          have hL2 := qLess_h (h'.redrawn q) (i := (2 * i + 2)) (j := i) (by omega) hiz
          rw [show (((2 * i + 2) : Nat) : Int) = (2 * (i : Int) + 1 + 1) by omega] at hL2
          refine hL2.mono ?_
          rintro e w1 ⟨rfl, q2, rfl⟩
          by_cases hd : bf (κ' (2 * i + 2)) (κ' i) = true
          · have hd' : decide ((κ' (2 * i + 2)).2 < (κ' i).2) = true := hd
            rw [hd']
            go_wp2_with fail
            have hS := qSwap_h (h'.redrawn q2) (i := i) (j := (2 * i + 2)) hiz (by omega)
            rw [show (((2 * i + 2) : Nat) : Int) = (2 * (i : Int) + 1 + 1) by omega] at hS
            refine hS.mono ?_
            rintro e w2 ⟨rfl, h2, hf2⟩
            go_wp2_with fail
            go_round
            case rel => exact ⟨(2 * i + 2), f, _, by go_num, by omega, by omega, h2, hf.trans (((Fr.refl (fun b => b = r) _).redrawn q2).trans hf2), by rw [ED.out, if_pos hd]⟩
            case measure => simp [intOf]; omega
          · have hd' : decide ((κ' (2 * i + 2)).2 < (κ' i).2) = false := by rw [Bool.not_eq_true] at hd; exact hd
            rw [hd']
            have e1 : Hid (dnF bf m m κ i0 = (κ', i)) := by have := ED.out; rw [if_neg hd] at this; exact this
            clear ED
            go_wp2_with fail
            go_ret
            refine ⟨by rw [e1.out]; rfl, ?_, hf.redrawn q2⟩
            rw [e1.out]; exact h'.redrawn q2
        · have hb' : decide ((κ' (2 * i + 2)).2 < (κ' (2 * i + 1)).2) = false := by rw [Bool.not_eq_true] at hb; exact hb
          rw [hb']
          have ED : Hid (dnF bf m m κ i0 = if bf (κ' (2 * i + 1)) (κ' i) = true then dnF bf m f (swp κ' i (2 * i + 1)) (2 * i + 1) else (κ', i)) := by
            have := HE.out; rw [← this, dn_one hz (fun hh => hb hh.2)]; exact rfl
          clear HE
          go_wp2_with fail
          have hL2 := qLess_h (h'.redrawn q) (i := (2 * i + 1)) (j := i) (by omega) hiz
          rw [show (((2 * i + 1) : Nat) : Int) = (2 * (i : Int) + 1) by omega] at hL2
          refine hL2.mono ?_
          rintro e w1 ⟨rfl, q2, rfl⟩
          by_cases hd : bf (κ' (2 * i + 1)) (κ' i) = true
          · have hd' : decide ((κ' (2 * i + 1)).2 < (κ' i).2) = true := hd
            rw [hd']
            go_wp2_with fail
            have hS := qSwap_h (h'.redrawn q2) (i := i) (j := (2 * i + 1)) hiz (by omega)
            rw [show (((2 * i + 1) : Nat) : Int) = (2 * (i : Int) + 1) by omega] at hS
            refine hS.mono ?_
            rintro e w2 ⟨rfl, h2, hf2⟩
            go_wp2_with fail
            go_round
            case rel => exact ⟨(2 * i + 1), f, _, by go_num, by omega, by omega, h2, hf.trans (((Fr.refl (fun b => b = r) _).redrawn q2).trans hf2), by rw [ED.out, if_pos hd]⟩
            case measure => simp [intOf]; omega
          · have hd' : decide ((κ' (2 * i + 1)).2 < (κ' i).2) = false := by rw [Bool.not_eq_true] at hd; exact hd
            rw [hd']
            have e1 : Hid (dnF bf m m κ i0 = (κ', i)) := by have := ED.out; rw [if_neg hd] at this; exact this
            clear ED
            go_wp2_with fail
            go_ret
            refine ⟨by rw [e1.out]; rfl, ?_, hf.redrawn q2⟩
            rw [e1.out]; exact h'.redrawn q2
      · have ED : Hid (dnF bf m m κ i0 = if bf (κ' (2 * i + 1)) (κ' i) = true then dnF bf m f (swp κ' i (2 * i + 1)) (2 * i + 1) else (κ', i)) := by
          have := HE.out; rw [← this, dn_one hz (fun hh => hc hh.1)]; exact rfl
        have q : Nat := 0
        clear HE
        go_wp2_with fail
        have hL2 := qLess_h h' (i := (2 * i + 1)) (j := i) (by omega) hiz
        rw [show (((2 * i + 1) : Nat) : Int) = (2 * (i : Int) + 1) by omega] at hL2
        refine hL2.mono ?_
        rintro e w1 ⟨rfl, q2, rfl⟩
        by_cases hd : bf (κ' (2 * i + 1)) (κ' i) = true
        · have hd' : decide ((κ' (2 * i + 1)).2 < (κ' i).2) = true := hd
          rw [hd']
          go_wp2_with fail
          have hS := qSwap_h (h'.redrawn q2) (i := i) (j := (2 * i + 1)) hiz (by omega)
          rw [show (((2 * i + 1) : Nat) : Int) = (2 * (i : Int) + 1) by omega] at hS
          refine hS.mono ?_
          rintro e w2 ⟨rfl, h2, hf2⟩
          go_wp2_with fail
          go_round
          case rel => exact ⟨(2 * i + 1), f, _, by go_num, by omega, by omega, h2, hf.trans (((Fr.refl (fun b => b = r) _).redrawn q2).trans hf2), by rw [ED.out, if_pos hd]⟩
          case measure => simp [intOf]; omega
        · have hd' : decide ((κ' (2 * i + 1)).2 < (κ' i).2) = false := by rw [Bool.not_eq_true] at hd; exact hd
          rw [hd']
          have e1 : Hid (dnF bf m m κ i0 = (κ', i)) := by have := ED.out; rw [if_neg hd] at this; exact this
          clear ED
          go_wp2_with fail
          go_ret
          refine ⟨by rw [e1.out]; rfl, ?_, hf.redrawn q2⟩
          rw [e1.out]; exact h'.redrawn q2
end Go.Proofs.Ytgebehnlfihliaa
