/- Intent: rows of structures; the library's IndexFunc, ContainsFunc and intent's all, at each element type, over whatever function value. -/
import Derived.Test.YtgebehnlfihliaaTop6
import Derived.Shelf.Abstract
namespace Go.Proofs.Ytgebehnlfihliaa
open Go.RowKit
set_option linter.unusedSimpArgs false
set_option linter.unusedVariables false
set_option maxRecDepth 100000
/-- a slice of n elements of sz cells; cell k of element i is cv i k. -/
def Rw (W : World) (o : Option Addr) (n cap sz : Nat) (cv : Nat → Nat → Value) : Prop :=
  n ≤ cap ∧ cap ≤ maxLen ∧ ∃ b off, (0 < n → o = some ⟨b, off, none⟩) ∧ ∀ i k, i < n → k < sz → W.cell? ⟨b, off + i * sz + k, none⟩ = some (cv i k)
theorem Rw.below {W W' : World} {o : Option Addr} {n cap sz : Nat} {cv : Nat → Nat → Value} (h : Rw W o n cap sz cv) (hb : RowKit.Below W.heap.size W W') : Rw W' o n cap sz cv := by
  obtain ⟨h1, h2, b, off, h3, h4⟩ := h
  exact ⟨h1, h2, b, off, h3, fun i k hi hk => cell_below hb (h4 i k hi hk)⟩
/-- the first of the first n places at which p is true; below 0: none. -/
def fidx (p : Nat → Bool) : Nat → Int
  | 0 => -1
  | n + 1 => if 0 ≤ fidx p n then fidx p n else if p n then (n : Int) else -1
theorem fidx_none {p : Nat → Bool} {n : Nat} (h : ∀ i, i < n → p i = false) : fidx p n = -1 := by
  induction n with
  | zero => rfl
  | succ n ih => simp [fidx, ih (fun i hi => h i (by omega)), h n (by omega)]
theorem fidx_hit {p : Nat → Bool} {n k : Nat} (hk : k < n) (hp : p k = true) (h : ∀ i, i < k → p i = false) : fidx p n = (k : Int) := by
  induction n with
  | zero => omega
  | succ n ih =>
    by_cases e : k = n
    · subst e; simp [fidx, fidx_none h, hp]
    · have := ih (by omega)
      simp only [fidx, this]
      rw [if_pos (by omega)]
theorem fidx_cases (p : Nat → Bool) (n : Nat) : (fidx p n = -1 ∧ ∀ i, i < n → p i = false) ∨ ∃ k, k < n ∧ p k = true ∧ (∀ i, i < k → p i = false) ∧ fidx p n = (k : Int) := by
  by_cases h : ∃ k, k < n ∧ p k = true ∧ ∀ i, i < k → p i = false
  · obtain ⟨k, h1, h2, h3⟩ := h
    exact .inr ⟨k, h1, h2, h3, fidx_hit h1 h2 h3⟩
  · have : ∀ i, i < n → p i = false := by
      intro i
      induction i using Nat.strongRecOn with
      | ind i ih =>
        intro hi
        cases hp : p i with
        | false => rfl
        | true => exact absurd ⟨i, hi, hp, fun j hj => ih j hj (by omega)⟩ h
    exact .inl ⟨fidx_none this, this⟩
def anyB (p : Nat → Bool) (n : Nat) : Bool := (List.range n).any p
def allB (p : Nat → Bool) (n : Nat) : Bool := (List.range n).all p
theorem fidx_any (p : Nat → Bool) (n : Nat) : decide (0 ≤ fidx p n) = anyB p n := by
  rcases fidx_cases p n with ⟨h1, h2⟩ | ⟨k, h1, h2, h3, h4⟩
  · rw [h1]
    have : anyB p n = false := by unfold anyB; rw [List.any_eq_false]; intro i hi; simp [h2 i (by simpa using hi)]
    rw [this]; rfl
  · rw [h4]
    have : anyB p n = true := by unfold anyB; rw [List.any_eq_true]; exact ⟨k, by simpa using h1, h2⟩
    rw [this]; simp
theorem any_not (p : Nat → Bool) (n : Nat) : (!anyB (fun i => !p i) n) = allB p n := by
  unfold anyB allB
  induction n with
  | zero => rfl
  | succ n ih => simp [List.range_succ, Bool.not_or] at ih ⊢; rw [ih]; simp
set_option maxHeartbeats 2000000 in
theorem idxSp {w : World} {o : Option Addr} {n cap : Nat} {cv : Nat → Nat → Value} (h : Rw w o n cap 2 cv) (g : Nat) (lb : Array Value) (p : Nat → Bool)
    (eg : ∀ args w, (callFunc g args).run Try.prog w = .ok (.enter g args) w)
    (hp : ∀ W i, RowKit.Below w.heap.size w W → i < n → Calls Try.prog g (#[.agg #[cv i 0, cv i 1]] ++ lb) W fun e w' => e = .returned (.bool (p i)) ∧ RowKit.Below W.heap.size W w') :
    Calls Try.prog 94 #[.slice o n cap, .func (.func g) #[] lb] w fun e w' => e = .returned (.int .i64 (fidx p n)) ∧ RowKit.Below w.heap.size w w' := by
  obtain ⟨hnc, hcm, b, off, ho, hx⟩ := h
  have HX := Lib.hid hx
  have HP := Lib.hid hp
  have HO := Lib.hid ho
  clear hx hp ho
  simp only [maxLen] at hcm
  have hn63 : (n : Int) ≤ 9223372036854775807 := by omega
  go_enter Try.func94, Try.ntmps94
  go_wp2_with fail
  refine wp_world (fun W => W = w) rfl ?_
  rintro W rfl
  go_loopw [5, 8] (fun v5 v8 wr => ∃ j : Nat, v8 = .int .i64 (j : Int) ∧ j ≤ n ∧ RowKit.Below W.heap.size W wr ∧ ∀ i, i < j → p i = false) (fun _ v8 _ => n - (intOf v8).toNat)
  case atStart => exact ⟨0, rfl, Nat.zero_le _, Below.refl _ _, fun i hi => by omega⟩
  case round =>
    obtain ⟨j, rfl, hj, hbr, hno⟩ := hrel
    have HN := Lib.hid hno
    clear hno
    by_cases hjl : j < n
    · obtain rfl := HO.out (by omega)
      have hjI : (j : Int) < (n : Int) := by omega
      have e0 := cell_below hbr (HX.out j 0 hjl (by decide))
      have e1 := cell_below hbr (HX.out j 1 hjl (by decide))
      simp only [Nat.add_zero] at e0
      have hc := HP.out wr j hbr hjl
      cases hq : p j with
      | true =>
        rw [hq] at hc
        have hfi := fidx_hit hjl hq HN.out
        go_wp2_with fail
        refine hc.mono ?_
        rintro e w2 ⟨rfl, hb2⟩
        go_wp2_with fail
        go_ret
        exact ⟨by rw [hfi]; rfl, hbr.trans (hb2.mono hbr.size)⟩
      | false =>
        rw [hq] at hc
        go_wp2_with fail
        refine hc.mono ?_
        rintro e w2 ⟨rfl, hb2⟩
        go_wp2_with fail
        go_roundw
        case rel => exact ⟨j + 1, by go_num, by omega, hbr.trans (hb2.mono hbr.size), fun i hi => by
          by_cases e : i = j
          · subst e; exact hq
          · exact HN.out i (by omega)⟩
        case measure => simp [intOf] <;> omega
    · have : j = n := by omega
      subst this
      have hfi := fidx_none HN.out
      go_wp2_with fail
      go_ret
      exact ⟨by rw [hfi]; rfl, hbr⟩
theorem conSp {w : World} {o : Option Addr} {n cap : Nat} {cv : Nat → Nat → Value} (h : Rw w o n cap 2 cv) (g : Nat) (lb : Array Value) (p : Nat → Bool)
    (eg : ∀ args w, (callFunc g args).run Try.prog w = .ok (.enter g args) w)
    (hp : ∀ W i, RowKit.Below w.heap.size w W → i < n → Calls Try.prog g (#[.agg #[cv i 0, cv i 1]] ++ lb) W fun e w' => e = .returned (.bool (p i)) ∧ RowKit.Below W.heap.size W w') :
    Calls Try.prog 70 #[.slice o n cap, .func (.func g) #[] lb] w fun e w' => e = .returned (.bool (anyB p n)) ∧ RowKit.Below w.heap.size w w' := by
  have hc := idxSp h g lb p eg hp
  have hr := fidx_any p n
  generalize fidx p n = z at hc hr
  have HR := Lib.hid hr
  clear hp hr
  go_enter Try.func70, Try.ntmps70
  go_wp2_with fail
  refine hc.mono ?_
  rintro e w2 ⟨rfl, hb2⟩
  go_wp2_with fail
  go_ret
  exact ⟨by rw [← HR.out]; rfl, hb2⟩
set_option maxHeartbeats 2000000 in
theorem idxPr {w : World} {o : Option Addr} {n cap : Nat} {cv : Nat → Nat → Value} (h : Rw w o n cap 2 cv) (g : Nat) (lb : Array Value) (p : Nat → Bool)
    (eg : ∀ args w, (callFunc g args).run Try.prog w = .ok (.enter g args) w)
    (hp : ∀ W i, RowKit.Below w.heap.size w W → i < n → Calls Try.prog g (#[.agg #[cv i 0, cv i 1]] ++ lb) W fun e w' => e = .returned (.bool (p i)) ∧ RowKit.Below W.heap.size W w') :
    Calls Try.prog 95 #[.slice o n cap, .func (.func g) #[] lb] w fun e w' => e = .returned (.int .i64 (fidx p n)) ∧ RowKit.Below w.heap.size w w' := by
  obtain ⟨hnc, hcm, b, off, ho, hx⟩ := h
  have HX := Lib.hid hx
  have HP := Lib.hid hp
  have HO := Lib.hid ho
  clear hx hp ho
  simp only [maxLen] at hcm
  have hn63 : (n : Int) ≤ 9223372036854775807 := by omega
  go_enter Try.func95, Try.ntmps95
  go_wp2_with fail
  refine wp_world (fun W => W = w) rfl ?_
  rintro W rfl
  go_loopw [5, 8] (fun v5 v8 wr => ∃ j : Nat, v8 = .int .i64 (j : Int) ∧ j ≤ n ∧ RowKit.Below W.heap.size W wr ∧ ∀ i, i < j → p i = false) (fun _ v8 _ => n - (intOf v8).toNat)
  case atStart => exact ⟨0, rfl, Nat.zero_le _, Below.refl _ _, fun i hi => by omega⟩
  case round =>
    obtain ⟨j, rfl, hj, hbr, hno⟩ := hrel
    have HN := Lib.hid hno
    clear hno
    by_cases hjl : j < n
    · obtain rfl := HO.out (by omega)
      have hjI : (j : Int) < (n : Int) := by omega
      have e0 := cell_below hbr (HX.out j 0 hjl (by decide))
      have e1 := cell_below hbr (HX.out j 1 hjl (by decide))
      simp only [Nat.add_zero] at e0
      have hc := HP.out wr j hbr hjl
      cases hq : p j with
      | true =>
        rw [hq] at hc
        have hfi := fidx_hit hjl hq HN.out
        go_wp2_with fail
        refine hc.mono ?_
        rintro e w2 ⟨rfl, hb2⟩
        go_wp2_with fail
        go_ret
        exact ⟨by rw [hfi]; rfl, hbr.trans (hb2.mono hbr.size)⟩
      | false =>
        rw [hq] at hc
        go_wp2_with fail
        refine hc.mono ?_
        rintro e w2 ⟨rfl, hb2⟩
        go_wp2_with fail
        go_roundw
        case rel => exact ⟨j + 1, by go_num, by omega, hbr.trans (hb2.mono hbr.size), fun i hi => by
          by_cases e : i = j
          · subst e; exact hq
          · exact HN.out i (by omega)⟩
        case measure => simp [intOf] <;> omega
    · have : j = n := by omega
      subst this
      have hfi := fidx_none HN.out
      go_wp2_with fail
      go_ret
      exact ⟨by rw [hfi]; rfl, hbr⟩
theorem conPr {w : World} {o : Option Addr} {n cap : Nat} {cv : Nat → Nat → Value} (h : Rw w o n cap 2 cv) (g : Nat) (lb : Array Value) (p : Nat → Bool)
    (eg : ∀ args w, (callFunc g args).run Try.prog w = .ok (.enter g args) w)
    (hp : ∀ W i, RowKit.Below w.heap.size w W → i < n → Calls Try.prog g (#[.agg #[cv i 0, cv i 1]] ++ lb) W fun e w' => e = .returned (.bool (p i)) ∧ RowKit.Below W.heap.size W w') :
    Calls Try.prog 73 #[.slice o n cap, .func (.func g) #[] lb] w fun e w' => e = .returned (.bool (anyB p n)) ∧ RowKit.Below w.heap.size w w' := by
  have hc := idxPr h g lb p eg hp
  have hr := fidx_any p n
  generalize fidx p n = z at hc hr
  have HR := Lib.hid hr
  clear hp hr
  go_enter Try.func73, Try.ntmps73
  go_wp2_with fail
  refine hc.mono ?_
  rintro e w2 ⟨rfl, hb2⟩
  go_wp2_with fail
  go_ret
  exact ⟨by rw [← HR.out]; rfl, hb2⟩
set_option maxHeartbeats 1000000 in
theorem allPr {w : World} {o : Option Addr} {n cap : Nat} {cv : Nat → Nat → Value} (h : Rw w o n cap 2 cv) (g : Nat) (fs : Array Value) (p : Nat → Bool)
    (eg : ∀ args w, (callFunc g args).run Try.prog w = .ok (.enter g args) w)
    (hp : ∀ W i, RowKit.Below w.heap.size w W → i < n → Calls Try.prog g (fs ++ #[.agg #[cv i 0, cv i 1]]) W fun e w' => e = .returned (.bool (p i)) ∧ RowKit.Below W.heap.size W w') :
    Calls Try.prog 39 #[.slice o n cap, .func (.func g) fs #[]] w fun e w' => e = .returned (.bool (allB p n)) ∧ RowKit.Below w.heap.size w w' := by
  have hba := (Below.refl w.heap.size w).alloc (Nat.le_refl _) (.cells #[.func (.func g) fs #[]] 89)
  have eg2 : ∀ args w, (callFunc 74 args).run Try.prog w = .ok (.enter 74 args) w := enters_of Try.func74 (by kernel_rfl) rfl
  have hc := conPr (h.below hba) 74 #[.pointer (some ⟨w.heap.size, 0, none⟩)] (fun i => !p i) eg2 (by
    intro W i hb hi
    have hcall := fun V (hV : RowKit.Below w.heap.size w V) => hp V i hV hi
    have hbw := hba.trans (hb.mono hba.size)
    have x0 : W.cell? ⟨w.heap.size, 0, none⟩ = some (.func (.func g) fs #[]) := cell_below hb (by rw [cell_b (heap_alloc_new w _)]; rfl)
    have xl : w.heap.size < W.heap.size := World.block_lt_of_cell? W _ x0
    have hb1 := hbw.alloc hbw.size (.cells #[cv i 0, cv i 1] 70)
    have hc1 := hcall _ hb1
    have HC := Lib.hid hc1
    clear hc1 hcall hp
    show Calls Try.prog 74 #[.agg #[cv i 0, cv i 1], .pointer (some ⟨w.heap.size, 0, none⟩)] W _
    go_enter Try.func74, Try.ntmps74
    go_wp2_with fail
    refine (HC.out).mono ?_
    rintro e w2 ⟨rfl, hb2⟩
    go_wp2_with fail
    go_ret
    exact ⟨rfl, ((Below.refl W.heap.size W).alloc (Nat.le_refl _) _).trans (hb2.mono (by simp))⟩)
  rw [← any_not]
  generalize anyB (fun i => !p i) n = z at hc ⊢
  clear hp eg2
  go_enter Try.func39, Try.ntmps39
  go_wp2_with fail
  refine hc.mono ?_
  rintro e w2 ⟨rfl, hb2⟩
  go_wp2_with fail
  go_ret
  exact ⟨rfl, hba.trans (hb2.mono hba.size)⟩
set_option maxHeartbeats 2000000 in
theorem idxWy {w : World} {o : Option Addr} {n cap : Nat} {cv : Nat → Nat → Value} (h : Rw w o n cap 3 cv) (g : Nat) (lb : Array Value) (p : Nat → Bool)
    (eg : ∀ args w, (callFunc g args).run Try.prog w = .ok (.enter g args) w)
    (hp : ∀ W i, RowKit.Below w.heap.size w W → i < n → Calls Try.prog g (#[.agg #[cv i 0, cv i 1, cv i 2]] ++ lb) W fun e w' => e = .returned (.bool (p i)) ∧ RowKit.Below W.heap.size W w') :
    Calls Try.prog 96 #[.slice o n cap, .func (.func g) #[] lb] w fun e w' => e = .returned (.int .i64 (fidx p n)) ∧ RowKit.Below w.heap.size w w' := by
  obtain ⟨hnc, hcm, b, off, ho, hx⟩ := h
  have HX := Lib.hid hx
  have HP := Lib.hid hp
  have HO := Lib.hid ho
  clear hx hp ho
  simp only [maxLen] at hcm
  have hn63 : (n : Int) ≤ 9223372036854775807 := by omega
  go_enter Try.func96, Try.ntmps96
  go_wp2_with fail
  refine wp_world (fun W => W = w) rfl ?_
  rintro W rfl
  go_loopw [5, 8] (fun v5 v8 wr => ∃ j : Nat, v8 = .int .i64 (j : Int) ∧ j ≤ n ∧ RowKit.Below W.heap.size W wr ∧ ∀ i, i < j → p i = false) (fun _ v8 _ => n - (intOf v8).toNat)
  case atStart => exact ⟨0, rfl, Nat.zero_le _, Below.refl _ _, fun i hi => by omega⟩
  case round =>
    obtain ⟨j, rfl, hj, hbr, hno⟩ := hrel
    have HN := Lib.hid hno
    clear hno
    by_cases hjl : j < n
    · obtain rfl := HO.out (by omega)
      have hjI : (j : Int) < (n : Int) := by omega
      have e0 := cell_below hbr (HX.out j 0 hjl (by decide))
      have e1 := cell_below hbr (HX.out j 1 hjl (by decide))
      have e2 := cell_below hbr (HX.out j 2 hjl (by decide))
      simp only [Nat.add_zero] at e0
      have hc := HP.out wr j hbr hjl
      cases hq : p j with
      | true =>
        rw [hq] at hc
        have hfi := fidx_hit hjl hq HN.out
        go_wp2_with fail
        refine hc.mono ?_
        rintro e w2 ⟨rfl, hb2⟩
        go_wp2_with fail
        go_ret
        exact ⟨by rw [hfi]; rfl, hbr.trans (hb2.mono hbr.size)⟩
      | false =>
        rw [hq] at hc
        go_wp2_with fail
        refine hc.mono ?_
        rintro e w2 ⟨rfl, hb2⟩
        go_wp2_with fail
        go_roundw
        case rel => exact ⟨j + 1, by go_num, by omega, hbr.trans (hb2.mono hbr.size), fun i hi => by
          by_cases e : i = j
          · subst e; exact hq
          · exact HN.out i (by omega)⟩
        case measure => simp [intOf] <;> omega
    · have : j = n := by omega
      subst this
      have hfi := fidx_none HN.out
      go_wp2_with fail
      go_ret
      exact ⟨by rw [hfi]; rfl, hbr⟩
theorem conWy {w : World} {o : Option Addr} {n cap : Nat} {cv : Nat → Nat → Value} (h : Rw w o n cap 3 cv) (g : Nat) (lb : Array Value) (p : Nat → Bool)
    (eg : ∀ args w, (callFunc g args).run Try.prog w = .ok (.enter g args) w)
    (hp : ∀ W i, RowKit.Below w.heap.size w W → i < n → Calls Try.prog g (#[.agg #[cv i 0, cv i 1, cv i 2]] ++ lb) W fun e w' => e = .returned (.bool (p i)) ∧ RowKit.Below W.heap.size W w') :
    Calls Try.prog 75 #[.slice o n cap, .func (.func g) #[] lb] w fun e w' => e = .returned (.bool (anyB p n)) ∧ RowKit.Below w.heap.size w w' := by
  have hc := idxWy h g lb p eg hp
  have hr := fidx_any p n
  generalize fidx p n = z at hc hr
  have HR := Lib.hid hr
  clear hp hr
  go_enter Try.func75, Try.ntmps75
  go_wp2_with fail
  refine hc.mono ?_
  rintro e w2 ⟨rfl, hb2⟩
  go_wp2_with fail
  go_ret
  exact ⟨by rw [← HR.out]; rfl, hb2⟩
set_option maxHeartbeats 1000000 in
theorem allWy {w : World} {o : Option Addr} {n cap : Nat} {cv : Nat → Nat → Value} (h : Rw w o n cap 3 cv) (g : Nat) (fs : Array Value) (p : Nat → Bool)
    (eg : ∀ args w, (callFunc g args).run Try.prog w = .ok (.enter g args) w)
    (hp : ∀ W i, RowKit.Below w.heap.size w W → i < n → Calls Try.prog g (fs ++ #[.agg #[cv i 0, cv i 1, cv i 2]]) W fun e w' => e = .returned (.bool (p i)) ∧ RowKit.Below W.heap.size W w') :
    Calls Try.prog 41 #[.slice o n cap, .func (.func g) fs #[]] w fun e w' => e = .returned (.bool (allB p n)) ∧ RowKit.Below w.heap.size w w' := by
  have hba := (Below.refl w.heap.size w).alloc (Nat.le_refl _) (.cells #[.func (.func g) fs #[]] 93)
  have eg2 : ∀ args w, (callFunc 76 args).run Try.prog w = .ok (.enter 76 args) w := enters_of Try.func76 (by kernel_rfl) rfl
  have hc := conWy (h.below hba) 76 #[.pointer (some ⟨w.heap.size, 0, none⟩)] (fun i => !p i) eg2 (by
    intro W i hb hi
    have hcall := fun V (hV : RowKit.Below w.heap.size w V) => hp V i hV hi
    have hbw := hba.trans (hb.mono hba.size)
    have x0 : W.cell? ⟨w.heap.size, 0, none⟩ = some (.func (.func g) fs #[]) := cell_below hb (by rw [cell_b (heap_alloc_new w _)]; rfl)
    have xl : w.heap.size < W.heap.size := World.block_lt_of_cell? W _ x0
    have hb1 := hbw.alloc hbw.size (.cells #[cv i 0, cv i 1, cv i 2] 92)
    have hc1 := hcall _ hb1
    have HC := Lib.hid hc1
    clear hc1 hcall hp
    show Calls Try.prog 76 #[.agg #[cv i 0, cv i 1, cv i 2], .pointer (some ⟨w.heap.size, 0, none⟩)] W _
    go_enter Try.func76, Try.ntmps76
    go_wp2_with fail
    refine (HC.out).mono ?_
    rintro e w2 ⟨rfl, hb2⟩
    go_wp2_with fail
    go_ret
    exact ⟨rfl, ((Below.refl W.heap.size W).alloc (Nat.le_refl _) _).trans (hb2.mono (by simp))⟩)
  rw [← any_not]
  generalize anyB (fun i => !p i) n = z at hc ⊢
  clear hp eg2
  go_enter Try.func41, Try.ntmps41
  go_wp2_with fail
  refine hc.mono ?_
  rintro e w2 ⟨rfl, hb2⟩
  go_wp2_with fail
  go_ret
  exact ⟨rfl, hba.trans (hb2.mono hba.size)⟩
set_option maxHeartbeats 2000000 in
theorem idxEn {w : World} {o : Option Addr} {n cap : Nat} {cv : Nat → Nat → Value} (h : Rw w o n cap 4 cv) (g : Nat) (lb : Array Value) (p : Nat → Bool)
    (eg : ∀ args w, (callFunc g args).run Try.prog w = .ok (.enter g args) w)
    (hp : ∀ W i, RowKit.Below w.heap.size w W → i < n → Calls Try.prog g (#[.agg #[cv i 0, cv i 1, cv i 2, cv i 3]] ++ lb) W fun e w' => e = .returned (.bool (p i)) ∧ RowKit.Below W.heap.size W w') :
    Calls Try.prog 60 #[.slice o n cap, .func (.func g) #[] lb] w fun e w' => e = .returned (.int .i64 (fidx p n)) ∧ RowKit.Below w.heap.size w w' := by
  obtain ⟨hnc, hcm, b, off, ho, hx⟩ := h
  have HX := Lib.hid hx
  have HP := Lib.hid hp
  have HO := Lib.hid ho
  clear hx hp ho
  simp only [maxLen] at hcm
  have hn63 : (n : Int) ≤ 9223372036854775807 := by omega
  go_enter Try.func60, Try.ntmps60
  go_wp2_with fail
  refine wp_world (fun W => W = w) rfl ?_
  rintro W rfl
  go_loopw [5, 8] (fun v5 v8 wr => ∃ j : Nat, v8 = .int .i64 (j : Int) ∧ j ≤ n ∧ RowKit.Below W.heap.size W wr ∧ ∀ i, i < j → p i = false) (fun _ v8 _ => n - (intOf v8).toNat)
  case atStart => exact ⟨0, rfl, Nat.zero_le _, Below.refl _ _, fun i hi => by omega⟩
  case round =>
    obtain ⟨j, rfl, hj, hbr, hno⟩ := hrel
    have HN := Lib.hid hno
    clear hno
    by_cases hjl : j < n
    · obtain rfl := HO.out (by omega)
      have hjI : (j : Int) < (n : Int) := by omega
      have e0 := cell_below hbr (HX.out j 0 hjl (by decide))
      have e1 := cell_below hbr (HX.out j 1 hjl (by decide))
      have e2 := cell_below hbr (HX.out j 2 hjl (by decide))
      have e3 := cell_below hbr (HX.out j 3 hjl (by decide))
      simp only [Nat.add_zero] at e0
      have hc := HP.out wr j hbr hjl
      cases hq : p j with
      | true =>
        rw [hq] at hc
        have hfi := fidx_hit hjl hq HN.out
        go_wp2_with fail
        refine hc.mono ?_
        rintro e w2 ⟨rfl, hb2⟩
        go_wp2_with fail
        go_ret
        exact ⟨by rw [hfi]; rfl, hbr.trans (hb2.mono hbr.size)⟩
      | false =>
        rw [hq] at hc
        go_wp2_with fail
        refine hc.mono ?_
        rintro e w2 ⟨rfl, hb2⟩
        go_wp2_with fail
        go_roundw
        case rel => exact ⟨j + 1, by go_num, by omega, hbr.trans (hb2.mono hbr.size), fun i hi => by
          by_cases e : i = j
          · subst e; exact hq
          · exact HN.out i (by omega)⟩
        case measure => simp [intOf] <;> omega
    · have : j = n := by omega
      subst this
      have hfi := fidx_none HN.out
      go_wp2_with fail
      go_ret
      exact ⟨by rw [hfi]; rfl, hbr⟩
theorem conEn {w : World} {o : Option Addr} {n cap : Nat} {cv : Nat → Nat → Value} (h : Rw w o n cap 4 cv) (g : Nat) (lb : Array Value) (p : Nat → Bool)
    (eg : ∀ args w, (callFunc g args).run Try.prog w = .ok (.enter g args) w)
    (hp : ∀ W i, RowKit.Below w.heap.size w W → i < n → Calls Try.prog g (#[.agg #[cv i 0, cv i 1, cv i 2, cv i 3]] ++ lb) W fun e w' => e = .returned (.bool (p i)) ∧ RowKit.Below W.heap.size W w') :
    Calls Try.prog 77 #[.slice o n cap, .func (.func g) #[] lb] w fun e w' => e = .returned (.bool (anyB p n)) ∧ RowKit.Below w.heap.size w w' := by
  have hc := idxEn h g lb p eg hp
  have hr := fidx_any p n
  generalize fidx p n = z at hc hr
  have HR := Lib.hid hr
  clear hp hr
  go_enter Try.func77, Try.ntmps77
  go_wp2_with fail
  refine hc.mono ?_
  rintro e w2 ⟨rfl, hb2⟩
  go_wp2_with fail
  go_ret
  exact ⟨by rw [← HR.out]; rfl, hb2⟩
set_option maxHeartbeats 1000000 in
theorem allEn {w : World} {o : Option Addr} {n cap : Nat} {cv : Nat → Nat → Value} (h : Rw w o n cap 4 cv) (g : Nat) (fs : Array Value) (p : Nat → Bool)
    (eg : ∀ args w, (callFunc g args).run Try.prog w = .ok (.enter g args) w)
    (hp : ∀ W i, RowKit.Below w.heap.size w W → i < n → Calls Try.prog g (fs ++ #[.agg #[cv i 0, cv i 1, cv i 2, cv i 3]]) W fun e w' => e = .returned (.bool (p i)) ∧ RowKit.Below W.heap.size W w') :
    Calls Try.prog 43 #[.slice o n cap, .func (.func g) fs #[]] w fun e w' => e = .returned (.bool (allB p n)) ∧ RowKit.Below w.heap.size w w' := by
  have hba := (Below.refl w.heap.size w).alloc (Nat.le_refl _) (.cells #[.func (.func g) fs #[]] 95)
  have eg2 : ∀ args w, (callFunc 78 args).run Try.prog w = .ok (.enter 78 args) w := enters_of Try.func78 (by kernel_rfl) rfl
  have hc := conEn (h.below hba) 78 #[.pointer (some ⟨w.heap.size, 0, none⟩)] (fun i => !p i) eg2 (by
    intro W i hb hi
    have hcall := fun V (hV : RowKit.Below w.heap.size w V) => hp V i hV hi
    have hbw := hba.trans (hb.mono hba.size)
    have x0 : W.cell? ⟨w.heap.size, 0, none⟩ = some (.func (.func g) fs #[]) := cell_below hb (by rw [cell_b (heap_alloc_new w _)]; rfl)
    have xl : w.heap.size < W.heap.size := World.block_lt_of_cell? W _ x0
    have hb1 := hbw.alloc hbw.size (.cells #[cv i 0, cv i 1, cv i 2, cv i 3] 68)
    have hc1 := hcall _ hb1
    have HC := Lib.hid hc1
    clear hc1 hcall hp
    show Calls Try.prog 78 #[.agg #[cv i 0, cv i 1, cv i 2, cv i 3], .pointer (some ⟨w.heap.size, 0, none⟩)] W _
    go_enter Try.func78, Try.ntmps78
    go_wp2_with fail
    refine (HC.out).mono ?_
    rintro e w2 ⟨rfl, hb2⟩
    go_wp2_with fail
    go_ret
    exact ⟨rfl, ((Below.refl W.heap.size W).alloc (Nat.le_refl _) _).trans (hb2.mono (by simp))⟩)
  rw [← any_not]
  generalize anyB (fun i => !p i) n = z at hc ⊢
  clear hp eg2
  go_enter Try.func43, Try.ntmps43
  go_wp2_with fail
  refine hc.mono ?_
  rintro e w2 ⟨rfl, hb2⟩
  go_wp2_with fail
  go_ret
  exact ⟨rfl, hba.trans (hb2.mono hba.size)⟩
set_option maxHeartbeats 2000000 in
theorem idxAc {w : World} {o : Option Addr} {n cap : Nat} {cv : Nat → Nat → Value} (h : Rw w o n cap 5 cv) (g : Nat) (lb : Array Value) (p : Nat → Bool)
    (eg : ∀ args w, (callFunc g args).run Try.prog w = .ok (.enter g args) w)
    (hp : ∀ W i, RowKit.Below w.heap.size w W → i < n → Calls Try.prog g (#[.agg #[cv i 0, cv i 1, cv i 2, cv i 3, cv i 4]] ++ lb) W fun e w' => e = .returned (.bool (p i)) ∧ RowKit.Below W.heap.size W w') :
    Calls Try.prog 54 #[.slice o n cap, .func (.func g) #[] lb] w fun e w' => e = .returned (.int .i64 (fidx p n)) ∧ RowKit.Below w.heap.size w w' := by
  obtain ⟨hnc, hcm, b, off, ho, hx⟩ := h
  have HX := Lib.hid hx
  have HP := Lib.hid hp
  have HO := Lib.hid ho
  clear hx hp ho
  simp only [maxLen] at hcm
  have hn63 : (n : Int) ≤ 9223372036854775807 := by omega
  go_enter Try.func54, Try.ntmps54
  go_wp2_with fail
  refine wp_world (fun W => W = w) rfl ?_
  rintro W rfl
  go_loopw [5, 8] (fun v5 v8 wr => ∃ j : Nat, v8 = .int .i64 (j : Int) ∧ j ≤ n ∧ RowKit.Below W.heap.size W wr ∧ ∀ i, i < j → p i = false) (fun _ v8 _ => n - (intOf v8).toNat)
  case atStart => exact ⟨0, rfl, Nat.zero_le _, Below.refl _ _, fun i hi => by omega⟩
  case round =>
    obtain ⟨j, rfl, hj, hbr, hno⟩ := hrel
    have HN := Lib.hid hno
    clear hno
    by_cases hjl : j < n
    · obtain rfl := HO.out (by omega)
      have hjI : (j : Int) < (n : Int) := by omega
      have e0 := cell_below hbr (HX.out j 0 hjl (by decide))
      have e1 := cell_below hbr (HX.out j 1 hjl (by decide))
      have e2 := cell_below hbr (HX.out j 2 hjl (by decide))
      have e3 := cell_below hbr (HX.out j 3 hjl (by decide))
      have e4 := cell_below hbr (HX.out j 4 hjl (by decide))
      simp only [Nat.add_zero] at e0
      have hc := HP.out wr j hbr hjl
      cases hq : p j with
      | true =>
        rw [hq] at hc
        have hfi := fidx_hit hjl hq HN.out
        go_wp2_with fail
        refine hc.mono ?_
        rintro e w2 ⟨rfl, hb2⟩
        go_wp2_with fail
        go_ret
        exact ⟨by rw [hfi]; rfl, hbr.trans (hb2.mono hbr.size)⟩
      | false =>
        rw [hq] at hc
        go_wp2_with fail
        refine hc.mono ?_
        rintro e w2 ⟨rfl, hb2⟩
        go_wp2_with fail
        go_roundw
        case rel => exact ⟨j + 1, by go_num, by omega, hbr.trans (hb2.mono hbr.size), fun i hi => by
          by_cases e : i = j
          · subst e; exact hq
          · exact HN.out i (by omega)⟩
        case measure => simp [intOf] <;> omega
    · have : j = n := by omega
      subst this
      have hfi := fidx_none HN.out
      go_wp2_with fail
      go_ret
      exact ⟨by rw [hfi]; rfl, hbr⟩
theorem conAc {w : World} {o : Option Addr} {n cap : Nat} {cv : Nat → Nat → Value} (h : Rw w o n cap 5 cv) (g : Nat) (lb : Array Value) (p : Nat → Bool)
    (eg : ∀ args w, (callFunc g args).run Try.prog w = .ok (.enter g args) w)
    (hp : ∀ W i, RowKit.Below w.heap.size w W → i < n → Calls Try.prog g (#[.agg #[cv i 0, cv i 1, cv i 2, cv i 3, cv i 4]] ++ lb) W fun e w' => e = .returned (.bool (p i)) ∧ RowKit.Below W.heap.size W w') :
    Calls Try.prog 79 #[.slice o n cap, .func (.func g) #[] lb] w fun e w' => e = .returned (.bool (anyB p n)) ∧ RowKit.Below w.heap.size w w' := by
  have hc := idxAc h g lb p eg hp
  have hr := fidx_any p n
  generalize fidx p n = z at hc hr
  have HR := Lib.hid hr
  clear hp hr
  go_enter Try.func79, Try.ntmps79
  go_wp2_with fail
  refine hc.mono ?_
  rintro e w2 ⟨rfl, hb2⟩
  go_wp2_with fail
  go_ret
  exact ⟨by rw [← HR.out]; rfl, hb2⟩
set_option maxHeartbeats 1000000 in
theorem allAc {w : World} {o : Option Addr} {n cap : Nat} {cv : Nat → Nat → Value} (h : Rw w o n cap 5 cv) (g : Nat) (fs : Array Value) (p : Nat → Bool)
    (eg : ∀ args w, (callFunc g args).run Try.prog w = .ok (.enter g args) w)
    (hp : ∀ W i, RowKit.Below w.heap.size w W → i < n → Calls Try.prog g (fs ++ #[.agg #[cv i 0, cv i 1, cv i 2, cv i 3, cv i 4]]) W fun e w' => e = .returned (.bool (p i)) ∧ RowKit.Below W.heap.size W w') :
    Calls Try.prog 45 #[.slice o n cap, .func (.func g) fs #[]] w fun e w' => e = .returned (.bool (allB p n)) ∧ RowKit.Below w.heap.size w w' := by
  have hba := (Below.refl w.heap.size w).alloc (Nat.le_refl _) (.cells #[.func (.func g) fs #[]] 97)
  have eg2 : ∀ args w, (callFunc 80 args).run Try.prog w = .ok (.enter 80 args) w := enters_of Try.func80 (by kernel_rfl) rfl
  have hc := conAc (h.below hba) 80 #[.pointer (some ⟨w.heap.size, 0, none⟩)] (fun i => !p i) eg2 (by
    intro W i hb hi
    have hcall := fun V (hV : RowKit.Below w.heap.size w V) => hp V i hV hi
    have hbw := hba.trans (hb.mono hba.size)
    have x0 : W.cell? ⟨w.heap.size, 0, none⟩ = some (.func (.func g) fs #[]) := cell_below hb (by rw [cell_b (heap_alloc_new w _)]; rfl)
    have xl : w.heap.size < W.heap.size := World.block_lt_of_cell? W _ x0
    have hb1 := hbw.alloc hbw.size (.cells #[cv i 0, cv i 1, cv i 2, cv i 3, cv i 4] 75)
    have hc1 := hcall _ hb1
    have HC := Lib.hid hc1
    clear hc1 hcall hp
    show Calls Try.prog 80 #[.agg #[cv i 0, cv i 1, cv i 2, cv i 3, cv i 4], .pointer (some ⟨w.heap.size, 0, none⟩)] W _
    go_enter Try.func80, Try.ntmps80
    go_wp2_with fail
    refine (HC.out).mono ?_
    rintro e w2 ⟨rfl, hb2⟩
    go_wp2_with fail
    go_ret
    exact ⟨rfl, ((Below.refl W.heap.size W).alloc (Nat.le_refl _) _).trans (hb2.mono (by simp))⟩)
  rw [← any_not]
  generalize anyB (fun i => !p i) n = z at hc ⊢
  clear hp eg2
  go_enter Try.func45, Try.ntmps45
  go_wp2_with fail
  refine hc.mono ?_
  rintro e w2 ⟨rfl, hb2⟩
  go_wp2_with fail
  go_ret
  exact ⟨rfl, hba.trans (hb2.mono hba.size)⟩
end Go.Proofs.Ytgebehnlfihliaa
