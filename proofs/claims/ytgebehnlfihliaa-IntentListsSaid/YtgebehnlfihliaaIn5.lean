/- Intent: twice: do two of a row have the same key? By a map. -/
import Derived.Test.YtgebehnlfihliaaIn4
import Derived.Maps.Own
import Derived.Maps.OwnSet
import Derived.Maps.Views
import Derived.WideKeyPair
import Derived.DeepKeys4
namespace Go.Proofs.Ytgebehnlfihliaa
open Go.RowKit Go.Maps
set_option linter.unusedSimpArgs false
set_option linter.unusedVariables false
set_option maxRecDepth 100000
abbrev DU := DataW Unit
def zd : DU := .lit (.bool false)
def boolR : Value → Option (DU × List MemPlace)
  | .bool b => some (.lit (.bool b), [])
  | _ => none
theorem boolR_inv {v : Value} {b : Bool} {ps : List MemPlace} (h : boolR v = some (.lit (.bool b), ps)) : v = .bool b := by
  unfold boolR at h
  split at h
  · simp at h; rw [h.1]
  · cases h
theorem u66 : Try.prog.underlying 66 = some (.int .u32) := by kernel_rfl
theorem u130 : Try.prog.underlying 130 = some (.map 66 4) := by kernel_rfl
theorem u131 : Try.prog.underlying 131 = some (.map 70 4) := by kernel_rfl
theorem u70 : Try.prog.underlying 70 = some (.array 2 3) := by kernel_rfl
theorem u3i : Try.prog.underlying 3 = some (.int .i64) := by kernel_rfl
theorem z4 (w : World) : (zeroValue 4).run Try.prog w = .ok (.bool false) w := by kernel_rfl
theorem law66 : Keyed Try.prog 66 := int_keyed u66
theorem laidOutI : laidOutB Try.prog = true := by kernel_rfl
theorem law70 : Keyed Try.prog 70 := Keyed.of_law (deep_law_laid laidOutI (m := 2) (by omega) (of_decide_eq_true (by kernel_rfl)) (by kernel_rfl) (by rw [u70]))
theorem arr70 : Go.WideMaps.ArrKey Try.prog 70 3 2 := ⟨u70, by kernel_rfl, by kernel_rfl, by kernel_rfl⟩
theorem own_map {w w' : World} {kt m cnt : Nat} {D : DU} (h : w.ownsMap Try.prog kt boolR m cnt D) (hh : w'.heap[m]? = w.heap[m]?) : w'.ownsMap Try.prog kt boolR m cnt D := by
  obtain ⟨es, clock, hb, rest⟩ := h
  exact ⟨es, clock, hh.trans hb, rest⟩
theorem look_b {w : World} {mt kt m cnt : Nat} {D : DU} (h : w.ownsMap Try.prog kt boolR m cnt D) (K : Keyed Try.prog kt) (ht : Try.prog.underlying mt = some (.map kt 4)) {key : Value} {kl : Lit} (hk : keyOf Try.prog kt key = some kl) {b : Bool} (hd : D.atKey kl zd = .lit (.bool b)) : (Instr.lookup mt (.map (some m)) key false).run Try.prog w = .ok (.bool b) w := by
  obtain ⟨v, ps, hr, hv⟩ := h.lookup K ht (z4 w) (zd := zd) (zp := []) rfl hk
  rw [hd] at hv
  rw [boolR_inv hv] at hr
  exact hr
/-- do two of the first n have the same key? q: have i and j the same? -/
def dupB (q : Nat → Nat → Bool) (n : Nat) : Bool := (List.range n).any fun j => (List.range j).any fun i => q i j
theorem dup_no {q : Nat → Nat → Bool} {n : Nat} (h : ∀ j, j < n → ∀ i, i < j → q i j = false) : dupB q n = false := by
  unfold dupB
  rw [List.any_eq_false]
  intro j hj
  rw [List.mem_range] at hj
  rw [Bool.not_eq_true, List.any_eq_false]
  intro i hi
  rw [List.mem_range] at hi
  simp [h j hj i hi]
theorem dup_yes {q : Nat → Nat → Bool} {n i j : Nat} (hj : j < n) (hi : i < j) (h : q i j = true) : dupB q n = true := by
  unfold dupB
  rw [List.any_eq_true]
  refine ⟨j, by simpa using hj, ?_⟩
  rw [List.any_eq_true]
  exact ⟨i, by simpa using hi, h⟩
/-- what the map holds behind j rounds. -/
def Seen (kl : Nat → Lit) (D : DU) (j : Nat) : Prop := ∀ l, (∃ i, i < j ∧ kl i = l) ∧ D.atKey l zd = .lit (.bool true) ∨ (∀ i, i < j → kl i ≠ l) ∧ D.atKey l zd = zd
set_option maxHeartbeats 4000000 in
theorem twiceEn {w : World} {o : Option Addr} {n cap : Nat} {f : Nat → En} (h : Rw w o n cap 4 (cvE f)) (hn : n ≤ 1000000) (key : Nat → Value) (kl : Nat → Lit) (q : Nat → Nat → Bool)
    (hkey : ∀ j, j < n → keyOf Try.prog 66 (key j) = some (kl j)) (hq : ∀ i j, i < j → j < n → (q i j = true ↔ kl i = kl j)) (hkl : ∀ j, j < n → WideAt.IsKeyLit (kl j))
    (hp : ∀ W j, RowKit.Below w.heap.size w W → j < n → Calls Try.prog 48 #[.agg #[.int .i64 (f j).ten, .int .u32 (f j).addr, .int .i64 (f j).sw, .int .i64 (f j).po]] W fun e w' => e = .returned (key j) ∧ RowKit.Below W.heap.size W w') :
    Calls Try.prog 47 #[.slice o n cap, .func (.func 48) #[] #[]] w fun e w' => e = .returned (.bool (dupB q n)) ∧ RowKit.Below w.heap.size w w' := by
  obtain ⟨hnc, hcm, b, off, ho, hx⟩ := h
  have HX := Lib.hid hx
  have HP := Lib.hid hp
  have HO := Lib.hid ho
  have HK := Lib.hid hkey
  have HQ := Lib.hid hq
  have HKL := Lib.hid hkl
  clear hx hp ho hkey hq hkl
  have hmm := @run_makeMap Try.prog
  go_enter Try.func47, Try.ntmps47
  go_wp2_with fail
  clear hmm
  obtain ⟨gm, hgm⟩ : ∃ gm, Hid (gm = w.heap.size) := ⟨_, rfl⟩
  refine wp_world (fun W => RowKit.Below w.heap.size w W ∧ W.ownsMap Try.prog 66 boolR gm 0 (.map [] : DU)) ⟨(Below.refl _ _).alloc (Nat.le_refl _) _, by rw [hgm.out]; exact World.ownsMap_made w Try.prog 66 boolR⟩ ?_
  rintro W ⟨hbW, hom⟩
  rw [← hgm.out]
  have hgw : w.heap.size ≤ gm := by rw [hgm.out]; exact Nat.le_refl _
  go_loopw [11] (fun v11 wr => ∃ (j : Nat) (D : DU), v11 = .int .i64 (j : Int) ∧ j ≤ n ∧ RowKit.Below w.heap.size w wr ∧ wr.ownsMap Try.prog 66 boolR gm j D ∧ Seen kl D j ∧ ∀ y, y < j → ∀ x, x < y → q x y = false) (fun v11 _ => n - (intOf v11).toNat)
  case atStart => exact ⟨0, _, rfl, Nat.zero_le _, hbW, hom, fun l => .inr ⟨fun i hi => by omega, rfl⟩, fun y hy => by omega⟩
  case round =>
    obtain ⟨j, D, rfl, hj, hbr, hom, hseen, hno⟩ := hrel
    have HS := Lib.hid hseen
    have HN := Lib.hid hno
    clear hseen hno
    by_cases hjl : j < n
    · obtain rfl := HO.out (by omega)
      have hjI : (j : Int) < (n : Int) := by omega
      have e0 : wr.cell? ⟨b, off + j * 4 + 0, none⟩ = some (.int .i64 (f j).ten) := cell_below hbr (HX.out j 0 hjl (by decide))
      have e1 : wr.cell? ⟨b, off + j * 4 + 1, none⟩ = some (.int .u32 (f j).addr) := cell_below hbr (HX.out j 1 hjl (by decide))
      have e2 : wr.cell? ⟨b, off + j * 4 + 2, none⟩ = some (.int .i64 (f j).sw) := cell_below hbr (HX.out j 2 hjl (by decide))
      have e3 : wr.cell? ⟨b, off + j * 4 + 3, none⟩ = some (.int .i64 (f j).po) := cell_below hbr (HX.out j 3 hjl (by decide))
      simp only [Nat.add_zero] at e0
      have hba := hbr.alloc hbr.size (.cells #[.int .i64 (f j).ten, .int .u32 (f j).addr, .int .i64 (f j).sw, .int .i64 (f j).po] 68)
      have hbl := (Below.refl wr.heap.size wr).alloc (Nat.le_refl _) (.cells #[.int .i64 (f j).ten, .int .u32 (f j).addr, .int .i64 (f j).sw, .int .i64 (f j).po] 68)
      have hnew := heap_alloc_new wr (.cells #[.int .i64 (f j).ten, .int .u32 (f j).addr, .int .i64 (f j).sw, .int .i64 (f j).po] 68)
      have hc := HP.out _ j hba hjl
      obtain ⟨kv, hkv⟩ : ∃ kv, Hid (key j = kv) := ⟨_, rfl⟩
      rw [hkv.out] at hc
      have hkk := HK.out j hjl
      rw [hkv.out] at hkk
      have HKK := Lib.hid hkk
      clear hkk
      go_wp2_with fail
      refine hc.mono ?_
      rintro e w2 ⟨rfl, hb2⟩
      have hml := hom.lt
      have hom2 : w2.ownsMap Try.prog 66 boolR gm j D := own_map hom ((hb2.block gm (by simp only [World.size_alloc]; omega)).trans (al_lt' hml))
      have hb3 := hba.trans (hb2.mono hba.size)
      rcases HS.out (kl j) with ⟨⟨i, hi, he⟩, hat⟩ | ⟨hne, hat⟩
      · have hlk := look_b hom2 law66 u130 HKK.out hat
        have hd : Hid (dupB q n = true) := dup_yes hjl hi ((HQ.out i j hi hjl).2 he)
        go_wp2_with fail
        go_ret
        exact ⟨by rw [hd.out]; rfl, hb3⟩
      · have hlk := look_b hom2 law66 u130 HKK.out hat
        have f0 := cell_below hb2 ((cell_b (o := 0) hnew).trans rfl)
        have f1 := cell_below hb2 ((cell_b (o := 1) hnew).trans rfl)
        have f2 := cell_below hb2 ((cell_b (o := 2) hnew).trans rfl)
        have f3 := cell_below hb2 ((cell_b (o := 3) hnew).trans rfl)
        have hc2 := HP.out w2 j hb3 hjl
        rw [hkv.out] at hc2
        have HNE := Lib.hid hne
        clear hne
        go_wp2_with fail
        refine hc2.mono ?_
        rintro e w3 ⟨rfl, hb4⟩
        have hb5 := hb3.trans (hb4.mono hb3.size)
        have hom3 : w3.ownsMap Try.prog 66 boolR gm j D := own_map hom2 (hb4.block gm hom2.lt)
        go_wp2_with (first
          | (at_mapUpdate; refine wpList_mapUpdate_own _ rfl _ _ _ 130 rfl 66 4 law66 u130 boolR gm j D rfl hom3 (by simp only [maxLen]; omega) _ _ _ rfl rfl HKK.out (.lit (.bool true)) [] rfl ?_; intro w4 hom4 hg4)
          | fail)
        have hb6 : RowKit.Below w.heap.size w w4 := hb5.trans ⟨hg4.os, hg4.tape, hg4.output, hg4.size, fun k hk => hg4.block k (by have := hb5.size; omega) (by simp; omega)⟩
        go_roundw
        case rel =>
          refine ⟨j + 1, _, by go_num, by omega, hb6, hom4, fun l => ?_, fun y hy x hxy => ?_⟩
          · by_cases e : kl j = l
            · subst e
              exact .inl ⟨⟨j, by omega, rfl⟩, atKey_put_same hom3.isMap (HKL.out j hjl) _ _⟩
            · rcases HS.out l with ⟨⟨i, hi, he⟩, hat2⟩ | ⟨hne2, hat2⟩
              · exact .inl ⟨⟨i, by omega, he⟩, by rw [atKey_put_other (fun h => e h.symm)]; exact hat2⟩
              · refine .inr ⟨fun i hi => ?_, by rw [atKey_put_other (fun h => e h.symm)]; exact hat2⟩
                by_cases e2 : i = j
                · subst e2; exact e
                · exact hne2 i (by omega)
          · by_cases e : y = j
            · subst e
              cases hqq : q x y with
              | false => rfl
              | true => exact absurd ((HQ.out x y hxy hjl).1 hqq) (HNE.out x hxy)
            · exact HN.out y (by omega) x hxy
        case measure => simp [intOf] <;> omega
    · have : j = n := by omega
      subst this
      have hd : Hid (dupB q j = false) := dup_no HN.out
      go_wp2_with fail
      go_ret
      exact ⟨by rw [hd.out]; rfl, hbr⟩
set_option maxHeartbeats 4000000 in
theorem twiceWy {w : World} {o : Option Addr} {n cap : Nat} {f : Nat → Int × Int × Int} (h : Rw w o n cap 3 (cvW f)) (hn : n ≤ 1000000) (key : Nat → Value) (kl : Nat → Lit) (q : Nat → Nat → Bool)
    (hkey : ∀ j, j < n → keyOf Try.prog 70 (key j) = some (kl j)) (hq : ∀ i j, i < j → j < n → (q i j = true ↔ kl i = kl j)) (hkl : ∀ j, j < n → WideAt.IsKeyLit (kl j))
    (hp : ∀ W j, RowKit.Below w.heap.size w W → j < n → Calls Try.prog 50 #[.agg #[.int .i64 (f j).1, .int .i64 (f j).2.1, .int .i64 (f j).2.2]] W fun e w' => e = .returned (key j) ∧ RowKit.Below W.heap.size W w') :
    Calls Try.prog 49 #[.slice o n cap, .func (.func 50) #[] #[]] w fun e w' => e = .returned (.bool (dupB q n)) ∧ RowKit.Below w.heap.size w w' := by
  obtain ⟨hnc, hcm, b, off, ho, hx⟩ := h
  have HX := Lib.hid hx
  have HP := Lib.hid hp
  have HO := Lib.hid ho
  have HK := Lib.hid hkey
  have HQ := Lib.hid hq
  have HKL := Lib.hid hkl
  clear hx hp ho hkey hq hkl
  have hmm := @run_makeMap Try.prog
  go_enter Try.func49, Try.ntmps49
  go_wp2_with fail
  clear hmm
  obtain ⟨gm, hgm⟩ : ∃ gm, Hid (gm = w.heap.size) := ⟨_, rfl⟩
  refine wp_world (fun W => RowKit.Below w.heap.size w W ∧ W.ownsMap Try.prog 70 boolR gm 0 (.map [] : DU)) ⟨(Below.refl _ _).alloc (Nat.le_refl _) _, by rw [hgm.out]; exact World.ownsMap_made w Try.prog 70 boolR⟩ ?_
  rintro W ⟨hbW, hom⟩
  rw [← hgm.out]
  have hgw : w.heap.size ≤ gm := by rw [hgm.out]; exact Nat.le_refl _
  go_loopw [11] (fun v11 wr => ∃ (j : Nat) (D : DU), v11 = .int .i64 (j : Int) ∧ j ≤ n ∧ RowKit.Below w.heap.size w wr ∧ wr.ownsMap Try.prog 70 boolR gm j D ∧ Seen kl D j ∧ ∀ y, y < j → ∀ x, x < y → q x y = false) (fun v11 _ => n - (intOf v11).toNat)
  case atStart => exact ⟨0, _, rfl, Nat.zero_le _, hbW, hom, fun l => .inr ⟨fun i hi => by omega, rfl⟩, fun y hy => by omega⟩
  case round =>
    obtain ⟨j, D, rfl, hj, hbr, hom, hseen, hno⟩ := hrel
    have HS := Lib.hid hseen
    have HN := Lib.hid hno
    clear hseen hno
    by_cases hjl : j < n
    · obtain rfl := HO.out (by omega)
      have hjI : (j : Int) < (n : Int) := by omega
      have e0 : wr.cell? ⟨b, off + j * 3 + 0, none⟩ = some (.int .i64 (f j).1) := cell_below hbr (HX.out j 0 hjl (by decide))
      have e1 : wr.cell? ⟨b, off + j * 3 + 1, none⟩ = some (.int .i64 (f j).2.1) := cell_below hbr (HX.out j 1 hjl (by decide))
      have e2 : wr.cell? ⟨b, off + j * 3 + 2, none⟩ = some (.int .i64 (f j).2.2) := cell_below hbr (HX.out j 2 hjl (by decide))
      simp only [Nat.add_zero] at e0
      have hba := hbr.alloc hbr.size (.cells #[.int .i64 (f j).1, .int .i64 (f j).2.1, .int .i64 (f j).2.2] 92)
      have hbl := (Below.refl wr.heap.size wr).alloc (Nat.le_refl _) (.cells #[.int .i64 (f j).1, .int .i64 (f j).2.1, .int .i64 (f j).2.2] 92)
      have hnew := heap_alloc_new wr (.cells #[.int .i64 (f j).1, .int .i64 (f j).2.1, .int .i64 (f j).2.2] 92)
      have hc := HP.out _ j hba hjl
      obtain ⟨kv, hkv⟩ : ∃ kv, Hid (key j = kv) := ⟨_, rfl⟩
      rw [hkv.out] at hc
      have hkk := HK.out j hjl
      rw [hkv.out] at hkk
      have HKK := Lib.hid hkk
      clear hkk
      go_wp2_with fail
      refine hc.mono ?_
      rintro e w2 ⟨rfl, hb2⟩
      have hml := hom.lt
      have hom2 : w2.ownsMap Try.prog 70 boolR gm j D := own_map hom ((hb2.block gm (by simp only [World.size_alloc]; omega)).trans (al_lt' hml))
      have hb3 := hba.trans (hb2.mono hba.size)
      rcases HS.out (kl j) with ⟨⟨i, hi, he⟩, hat⟩ | ⟨hne, hat⟩
      · have hlk := look_b hom2 law70 u131 HKK.out hat
        have hd : Hid (dupB q n = true) := dup_yes hjl hi ((HQ.out i j hi hjl).2 he)
        go_wp2_with fail
        go_ret
        exact ⟨by rw [hd.out]; rfl, hb3⟩
      · have hlk := look_b hom2 law70 u131 HKK.out hat
        have f0 := cell_below hb2 ((cell_b (o := 0) hnew).trans rfl)
        have f1 := cell_below hb2 ((cell_b (o := 1) hnew).trans rfl)
        have f2 := cell_below hb2 ((cell_b (o := 2) hnew).trans rfl)
        have hc2 := HP.out w2 j hb3 hjl
        rw [hkv.out] at hc2
        have HNE := Lib.hid hne
        clear hne
        go_wp2_with fail
        refine hc2.mono ?_
        rintro e w3 ⟨rfl, hb4⟩
        have hb5 := hb3.trans (hb4.mono hb3.size)
        have hom3 : w3.ownsMap Try.prog 70 boolR gm j D := own_map hom2 (hb4.block gm hom2.lt)
        go_wp2_with (first
          | (at_mapUpdate; refine wpList_mapUpdate_own _ rfl _ _ _ 131 rfl 70 4 law70 u131 boolR gm j D rfl hom3 (by simp only [maxLen]; omega) _ _ _ rfl rfl HKK.out (.lit (.bool true)) [] rfl ?_; intro w4 hom4 hg4)
          | fail)
        have hb6 : RowKit.Below w.heap.size w w4 := hb5.trans ⟨hg4.os, hg4.tape, hg4.output, hg4.size, fun k hk => hg4.block k (by have := hb5.size; omega) (by simp; omega)⟩
        go_roundw
        case rel =>
          refine ⟨j + 1, _, by go_num, by omega, hb6, hom4, fun l => ?_, fun y hy x hxy => ?_⟩
          · by_cases e : kl j = l
            · subst e
              exact .inl ⟨⟨j, by omega, rfl⟩, atKey_put_same hom3.isMap (HKL.out j hjl) _ _⟩
            · rcases HS.out l with ⟨⟨i, hi, he⟩, hat2⟩ | ⟨hne2, hat2⟩
              · exact .inl ⟨⟨i, by omega, he⟩, by rw [atKey_put_other (fun h => e h.symm)]; exact hat2⟩
              · refine .inr ⟨fun i hi => ?_, by rw [atKey_put_other (fun h => e h.symm)]; exact hat2⟩
                by_cases e2 : i = j
                · subst e2; exact e
                · exact hne2 i (by omega)
          · by_cases e : y = j
            · subst e
              cases hqq : q x y with
              | false => rfl
              | true => exact absurd ((HQ.out x y hxy hjl).1 hqq) (HNE.out x hxy)
            · exact HN.out y (by omega) x hxy
        case measure => simp [intOf] <;> omega
    · have : j = n := by omega
      subst this
      have hd : Hid (dupB q j = false) := dup_no HN.out
      go_wp2_with fail
      go_ret
      exact ⟨by rw [hd.out]; rfl, hbr⟩
theorem keyE_c (v0 v2 v3 : Value) (addr : Int) (W : World) : Calls Try.prog 48 #[.agg #[v0, .int .u32 addr, v2, v3]] W fun e w' => e = .returned (.int .u32 addr) ∧ RowKit.Below W.heap.size W w' := by
  go_enter Try.func48, Try.ntmps48
  go_wp2_with fail
  go_ret
  exact ⟨rfl, (Below.refl _ _).alloc (Nat.le_refl _) _⟩
end Go.Proofs.Ytgebehnlfihliaa
