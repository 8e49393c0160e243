/- Agenda: AgendaAll: the walk. -/
import Derived.Test.YtlaagbnclkhbjaaAAllPlain
import Derived.Deep.CutBlock
import Derived.Deep.OwnRows
namespace Go.Proofs.Ytlaagbnclkhbjaa
open Go.RowKit Go.Maps
set_option linter.unusedSimpArgs false
set_option linter.unusedVariables false
set_option maxRecDepth 100000
theorem und45 : Try.prog.underlying 45 = some (.slice 4) := by kernel_rfl
theorem inf4 : (Try.prog.info? 4).map (fun i => (i.zero, i.size, i.bytes)) = some (some (.bool false), 1, 1) := by kernel_rfl
theorem ints_one (o : List Int) : ∀ u ∈ ints o, u.oneCell' = true := by
  intro u hu
  obtain ⟨x, _, rfl⟩ := List.mem_map.1 hu
  rfl
theorem due_len2 {now : Int} {l : List (Int × Int)} {o : List Int} {r : List (Int × Int)} (h : DueR now l o r) {b : Nat} (hb : l.length ≤ b) : o.length ≤ b := by
  induction h generalizing b with
  | stop => simp
  | step h1 h2 h3 h4 ih =>
    have := ih (b := b - 1) (by simp at hb ⊢; omega)
    simp at hb ⊢
    omega
theorem reg_c {W : World} {a : Addr} {v : Value} (h : W.cell? a = some v) : ∀ p : Regrown, (Sort.grow (redrawn W p.d) p.os).cell? a = some v := fun p => by
  rw [World.cell?_of_block (w := W) ((below_regrown W p.d p.os).block a.block (World.block_lt_of_cell? W a h))]
  exact h
theorem slice_form {w : World} {base : Nat} {e : TypeId} {size : Nat} {v : Value} {n : Nat} {xs : List Value} (h : w.ownsRow base e size v n xs) : ∃ o cap, v = .slice o n cap := by
  rcases h.2 with ⟨rfl, rfl⟩ | ⟨g, cap, cur, rfl, _⟩
  · exact ⟨none, 0, rfl⟩
  · exact ⟨_, _, rfl⟩
/-- has place j been met among the first k? -/
def sn (κ : Nat → Nat) (k j : Nat) : Bool := (List.range k).any fun i => κ i == j
theorem sn_no {κ : Nat → Nat} {n k : Nat} (h : ∀ i j, i < n → j < n → κ i = κ j → i = j) (hk : k < n) : sn κ k (κ k) = false := by
  unfold sn
  rw [List.any_eq_false]
  intro i hi
  rw [List.mem_range] at hi
  have : κ i ≠ κ k := fun e => by have := h i k (by omega) hk e; omega
  simpa using this
theorem sn_succ (κ : Nat → Nat) (k j : Nat) : sn κ (k + 1) j = (sn κ k j || κ k == j) := by simp [sn, List.range_succ]
def SeenAt (w : World) (g m : Nat) (κ : Nat → Nat) (k : Nat) : Prop := ∃ cur : Array Value, w.heap[g]? = some (.cells cur 4 (0, 0)) ∧ cur.size = m ∧ ∀ j, j < m → cur[j]? = some (.bool (sn κ k j))
theorem seen_zero (w : World) (m : Nat) (κ : Nat → Nat) : SeenAt (w.alloc (.cells (madeCells #[.bool false] m) 4)) w.heap.size m κ 0 := by
  refine ⟨_, heap_alloc_new w _, size_madeCells _ _, fun j hj => ?_⟩
  simp [madeCells, hj, sn]
  rw [Nat.mod_one]
  rfl
theorem seen_step {w : World} {g m : Nat} {κ : Nat → Nat} {k : Nat} (h : SeenAt w g m κ k) (hk : κ k < m) : SeenAt (w.setCell ⟨g, κ k, none⟩ (.bool true)) g m κ (k + 1) := by
  obtain ⟨cur, h1, h2, h3⟩ := h
  refine ⟨cur.setIfInBounds (κ k) (.bool true), sc_at h1, by simpa using h2, fun j hj => ?_⟩
  rw [sn_succ]
  by_cases e : κ k = j
  · subst e
    rw [Array.getElem?_setIfInBounds_self_of_lt (by omega)]
    simp
  · rw [Array.getElem?_setIfInBounds_ne e, h3 j hj]
    simp [e]
set_option maxHeartbeats 8000000 in
theorem all_some (o : Option Addr) (b off n cap : Nat) (ms : Nat → Int) (cut : Int) (w : World) (ho : 0 < n → o = some ⟨b, off, none⟩ ∧ b < w.heap.size) (hnc : n ≤ cap) (hcap : (cap : Int) ≤ 9223372036854775807)
    (hst : ∀ j, j < n → w.cell? ⟨b, off + j, none⟩ = some (.int .u16 (ms j))) (hms : ∀ j, j < n → 0 ≤ ms j ∧ ms j ≤ 65535) (hc0 : 0 ≤ cut) (hc1 : cut ≤ 65535) :
    Calls Try.prog 4 #[.slice o n cap, .int .u16 cut] w fun e w' => e = .returned (.bool true) ∧ RowKit.Below w.heap.size w w' := by
  obtain ⟨i0, hi, hz0, hz1, hz2⟩ := info_parts i3
  go_enter Try.func4, Try.ntmps4
  go_wp2_with fail
  refine (New_c w).mono ?_
  rintro e w1 ⟨rfl, h1, hs1, hk1⟩
  obtain ⟨p, hp⟩ : ∃ p, Hid (p = w.heap.size + 1) := ⟨_, rfl⟩
  rw [← hp.out] at h1 ⊢
  go_wp2_with fail
  refine (awake_c _).mono ?_
  rintro e w2 ⟨rfl, hk2⟩
  have h2 := h1.below hk2
  have hs2 := hk2.size
  have hF0 : ∀ b, (b = w.heap.size ∨ b = p) → w.heap.size ≤ b := fun b hb => by have := hp.out; omega
  have hb2 : RowKit.Below w.heap.size w w2 := hk1.trans (hk2.mono (by omega))
  clear h1 hk1 hk2
  go_upto_block 0 with (fail)
  go_cut [6, 7] from 19 to 39 (fun v6 v7 wx => ∃ (k : Nat) (F : Nat → Prop) (c : Nat), v6 = .int .i64 (k : Int) ∧ k ≤ n ∧ k ≤ 100 ∧ Ag F wx p c (mk ms k) ∧ (∀ b, F b → w.heap.size ≤ b) ∧ c ≤ k ∧ RowKit.Below w.heap.size w wx)
  case first =>
    go_wp2_with fail
    go_loopw [6, 7] (fun v6 v7 wr => ∃ (k : Nat) (F : Nat → Prop) (c : Nat), v6 = .int .i64 (k : Int) ∧ v7 = .int .i64 (k : Int) ∧ k ≤ n ∧ k ≤ 100 ∧ Ag F wr p c (mk ms k) ∧ (∀ b, F b → w.heap.size ≤ b) ∧ c ≤ k ∧ RowKit.Below w.heap.size w wr) (fun _ v7 _ => 100 - (intOf v7).toNat)
    case atStart => exact ⟨0, _, 0, rfl, rfl, Nat.zero_le _, Nat.zero_le _, h2, hF0, Nat.le_refl _, hb2⟩
    case round =>
      obtain ⟨k, F, c, rfl, rfl, hkn, hk100, hA, hF, hck, hbw⟩ := hrel
      by_cases hlt : k < n
      · by_cases hlt2 : k < 100
        · obtain ⟨rfl, hb⟩ := ho (by omega)
          have q0 : wr.cell? ⟨b, off + k, none⟩ = some (.int .u16 (ms k)) := by rw [World.cell?_of_block (w := w) (hbw.block b hb), hst k hlt]
          obtain ⟨b1, b2⟩ := hms k hlt
          have hok : okAt (ms k) = true := ok16 ⟨b1, b2⟩
          have hh := mk_has ms k
          have eE : Hid (addE (mk ms k) (ms k) (k : Int) = 0) := by unfold addE; rw [if_pos hok, hh]; exact rfl
          have eL : Hid (addL (mk ms k) (ms k) (k : Int) = mk ms (k + 1)) := by rw [mk_succ]; exact if_pos (by simp [hok, hh])
          have hkI : (k : Int) < 100 := by omega
          have hknI : (k : Int) < (n : Int) := by omega
          have hwf : Wf (k : Int) := WalkArith.wf_i64 (by omega)
          clear hok hh
          generalize hz : ms k = z at q0 b1 b2
          rw [hz] at eE eL
          go_wp2_with fail
          refine (Add_c hA (by omega) z (k : Int) hwf).mono ?_
          rintro e w3 ⟨rfl, hAf⟩
          obtain ⟨F3, c3, hA3, hc3, hF3, hs3, hb3⟩ := hAf.keep hF (by have := hbw.size; omega)
          rw [eE.out]
          rw [eL.out] at hA3
          clear hAf
          go_wp2_with fail
          go_roundw
          case rel => exact ⟨k + 1, F3, c3, by go_num, by go_num, by omega, by omega, hA3, hF3, by omega, hbw.trans hb3⟩
          case measure => simp [intOf]; omega
        · have h3 : ¬ ((k : Int) < 100) := by omega
          have h4 : (k : Int) < (n : Int) := by omega
          go_wp2_with fail
          go_meet
          case rel => exact ⟨k, F, c, rfl, hkn, hk100, hA, hF, hck, hbw⟩
      · have h4 : ¬ ((k : Int) < (n : Int)) := by omega
        go_wp2_with fail
        go_meet
        case rel => exact ⟨k, F, c, rfl, hkn, hk100, hA, hF, hck, hbw⟩
  case rest =>
    obtain ⟨m, F, c, rfl, hmn, hm100, hA, hF, hcm, hbw⟩ := hcut
    rename_i Kc hKc
    refine hKc _ _ ?_
    clear hKc
    go_wp2_with fail
    refine (Due_c hA (by omega) cut).mono ?_
    rintro e w3 ⟨v1, rfl, out1, r1, hD1, hr1, hA3, hf3⟩
    have hs3 := hf3.size
    have hb3 := hf3.below hF (by have := hbw.size; omega)
    have hlt3 := hA3.lt
    obtain ⟨o1, cap1, rfl, s1⟩ := ints_shape hr1
    have hl1 : out1.length ≤ 100 := due_len2 hD1 (by rw [mk_len]; omega)
    have hA4 : Ag F (w3.alloc (.cells #[] 3)) p c r1 := hA3.keep (by rw [World.size_alloc]; omega) (fun b hb => al_lt' (hlt3 b hb))
    have hr4 := owns_of hr1 (w' := w3.alloc (.cells #[] 3)) (fun g hg => al_lt' (hr1.lt g hg).2)
    have hnew : (w3.alloc (.cells #[] 3)).ownsRow w3.heap.size 3 1 (.slice (some ⟨w3.heap.size, 0, none⟩) 0 0) 0 [] := ⟨rfl, .inr ⟨w3.heap.size, 0, #[], rfl, Nat.le_refl _, heap_alloc_new w3 _, Nat.le_refl _, by decide, rfl, rfl⟩⟩
    have hwb : w.heap.size ≤ w3.heap.size := by have := hbw.size; omega
    go_wp2_with (first
      | (at_builtin; refine wpList_append_rows rfl _ _ 34 rfl w3.heap.size wc.heap.size 3 i0 (.int .i64 0) 1 8 und34 hi hz0 hz1 hz2 rfl (by decide) _ _ _ rfl hnew _ rfl out1.length (ints out1) hr4 (ints_one _) (by unfold maxLen; omega) (by omega) (by rw [World.size_alloc]; omega) ?_; intro v4 w4 hown4 hg4 hloc4)
      | fail)
    have hg4' : (w3.alloc (.cells #[] 3)).grownBy w4 (some w3.heap.size) := hg4
    have hloc4' : v4.ownBlock = some w3.heap.size ∨ v4.ownBlock = some (w3.heap.size + 1) := by
      rcases hloc4 with h | h
      · exact .inl h
      · exact .inr (by rw [h, World.size_alloc])
    clear hg4 hloc4
    have hs4 := hg4'.size
    rw [World.size_alloc] at hs4
    have hA5 : Ag F w4 p c r1 := hA4.keep (by rw [World.size_alloc]; omega) (fun b hb => hg4'.block b (by rw [World.size_alloc]; have := hlt3 b hb; omega) (by simp; have := hlt3 b hb; omega))
    have hb4 : RowKit.Below w.heap.size w3 w4 := ⟨hg4'.os, hg4'.tape, hg4'.output, by omega, fun b hb => by
      rw [hg4'.block b (by rw [World.size_alloc]; omega) (by simp; omega)]
      exact al_lt' (by omega)⟩
    refine (Due_c hA5 (by omega) 65536).mono ?_
    rintro e w5 ⟨v5, rfl, out2, r2, hD2, hr5, hA6, hf6⟩
    have hs6 := hf6.size
    have hb5 := hf6.below hF (by omega)
    obtain ⟨rfl, κ, hκ, hlenO, hinj, hmono⟩ := all_due (fun j hj => (hms j (by omega)).2) hD1 hD2
    have hl12 : out1.length + out2.length = m := by rw [List.length_append] at hlenO; exact hlenO
    have hnm : 0 + out1.length + out2.length = m := by omega
    have hown5 := owns_of hown4 (w' := w5) (fun g hg => hf6.same g (hown4.lt g hg).2 (fun hh => by have h8 := (hown4.lt g hg).1; have h7 := hlt3 g hh; omega))
    go_wp2_with (first
      | (at_builtin; refine wpList_append_rows rfl _ _ 34 rfl w3.heap.size w4.heap.size 3 i0 (.int .i64 0) 1 8 und34 hi hz0 hz1 hz2 rfl (by decide) v4 (0 + out1.length) ([] ++ ints out1) rfl hown5 v5 rfl out2.length (ints out2) hr5 (ints_one _) (by unfold maxLen; omega) (by omega) (by omega) ?_; intro v6 w6 hown6 hg6 hloc6; rw [hnm] at hown6; obtain ⟨o6, cap6, rfl⟩ := slice_form hown6)
      | fail)
    have hs7 := hg6.size
    have hv4b : ∀ b, b < w3.heap.size → some b ≠ v4.ownBlock := fun b hb e => by
      have := (hown4.lt b e.symm).1
      omega
    have hA7 : Ag F w6 p c [] := hA6.keep hs7 (fun b hb => hg6.block b (by have := hlt3 b hb; omega) (hv4b b (hlt3 b hb)))
    have hb6 : RowKit.Below w.heap.size w5 w6 := ⟨hg6.os, hg6.tape, hg6.output, hs7, fun b hb => hg6.block b (by omega) (hv4b b (by omega))⟩
    have hrow : w6.ownsRow w3.heap.size 3 1 (.slice o6 m cap6) (out1 ++ out2).length (ints (out1 ++ out2)) := by
      have e2 : ints (out1 ++ out2) = [] ++ ints out1 ++ ints out2 := by simp [ints]
      rw [hlenO, e2]
      exact hown6
    have hB6 : RowKit.Below w.heap.size w w6 := ((((hbw.trans hb3).trans hb4).trans hb5).trans hb6)
    have hmk := run_make_row' (P := Try.prog) 45 4 (.bool false) 1 und45 inf4 rfl .i64 .i64 m (by omega) (by omega)
    have hl1I : (out1.length : Int) ≤ 100 := by omega
    have HK := Lib.hid hκ
    have HI := Lib.hid hinj
    have HM := Lib.hid hmono
    have HLO := Lib.hid hlenO
    have HMS := Lib.hid hms
    have HST := Lib.hid hst
    clear hκ hinj hmono hlenO hl12 hms hst hv4b hlt3
    clear hA hA3 hA4 hA5 hA6 hr1 hr4 hnew hown4 hown5 hr5 hown6 hg6 hloc6 hD1 hD2 hg4' hloc4' hbw hb3 hb4 hb5 hb6 hf3 hf6
    go_wp2_with fail
    refine (Len_a hA7).mono ?_
    rintro e w7 ⟨rfl, he⟩
    obtain rfl := he.symm
    go_wp2_with fail
    obtain ⟨gS, hgS⟩ : ∃ gS, Hid (gS = w6.heap.size) := ⟨_, rfl⟩
    rw [← hgS.out]
    have hseen0 : SeenAt (w6.alloc (.cells (madeCells #[.bool false] m) 4)) gS m κ 0 := by rw [hgS.out]; exact seen_zero w6 m κ
    have hbA : RowKit.Below w6.heap.size w6 (w6.alloc (.cells (madeCells #[.bool false] m) 4)) := (Below.refl _ _).alloc (Nat.le_refl _) _
    go_loopw [11] (fun v11 wr => ∃ k : Nat, v11 = .int .i64 (k : Int) ∧ k ≤ m ∧ SeenAt wr gS m κ k ∧ RowKit.Below w6.heap.size w6 wr) (fun v11 _ => m - (intOf v11).toNat)
    case atStart => exact ⟨0, rfl, Nat.zero_le _, hseen0, hbA⟩
    case round =>
      obtain ⟨k, rfl, hk, hSeen, hbr⟩ := hrel
      clear hseen0 hbA
      by_cases hkm : k < m
      · obtain ⟨e1, e2, e3⟩ := HK.out k hkm
        obtain ⟨g6, rfl⟩ : ∃ g6, o6 = some ⟨g6, 0, none⟩ := by
          rcases hrow.2 with ⟨e, e'⟩ | ⟨g, cap', cur, e, _⟩
          · have := HLO.out; omega
          · simp at e; exact ⟨g, e.1⟩
        have hn0 : 0 < n := by omega
        obtain ⟨rfl, hb⟩ := ho hn0
        have cellL : ∀ i x, (out1 ++ out2)[i]? = some x → wr.cell? ⟨g6, i, none⟩ = some (.int .i64 x) := fun i x hx => by
          have hadd : (⟨g6, 0, none⟩ : Addr).add i = ⟨g6, i, none⟩ := by unfold Addr.add; split <;> simp_all
          have := hrow.cells (g := g6) rfl i (.int .i64 x) (by simp only [ints, List.getElem?_map, hx]; rfl)
          rw [hadd] at this
          rw [World.cell?_of_block (w := w6) (hbr.block g6 (hrow.lt g6 rfl).2)]
          exact this
        have cellA : ∀ j, j < m → wr.cell? ⟨b, off + j, none⟩ = some (.int .u16 (ms j)) := fun j hj => by
          rw [World.cell?_of_block (w := w6) (hbr.block b (by have := hB6.size; omega)), World.cell?_of_block (w := w) (hB6.block b hb)]
          exact HST.out j (by omega)
        obtain ⟨cur, c1, c2, c3⟩ := hSeen
        have hSeen' : Hid (SeenAt wr gS m κ k) := ⟨cur, c1, c2, c3⟩
        have sS : wr.cell? ⟨gS, κ k, none⟩ = some (.bool false) := by rw [cell_b c1, c3 _ e2, sn_no HI.out hkm]
        have fS : wr.frozen? ⟨gS, κ k, none⟩ = false := froz_b c1
        have r0 := cellL k _ e1
        have q0 := cellA _ e2
        obtain ⟨y0, y1⟩ := HMS.out (κ k) (by omega)
        have hreg : Hid (∀ W', RowKit.Below wr.heap.size wr W' → W'.frozen? ⟨gS, κ k, none⟩ = false ∧ SeenAt (W'.setCell ⟨gS, κ k, none⟩ (.bool true)) gS m κ (k + 1) ∧ RowKit.Below w6.heap.size w6 (W'.setCell ⟨gS, κ k, none⟩ (.bool true))) := fun W' hW' => by
          have c1' : W'.heap[gS]? = some (.cells cur 4 (0, 0)) := (hW'.block gS (Array.getElem?_eq_some_iff.1 c1).1).trans c1
          exact ⟨froz_b c1', seen_step ⟨cur, c1', c2, c3⟩ e2, (hbr.trans (hW'.mono hbr.size)).setCell (by show w6.heap.size ≤ gS; rw [hgS.out]; exact Nat.le_refl _) _⟩
        by_cases hk0 : k = 0
        · subst hk0
          have hkI : (0 : Int) < (m : Int) := by omega
          clear cellL cellA c1 c2 c3 hSeen' e1

          generalize hx : κ 0 = x at r0 sS fS q0 y0 y1 e2 e3 hreg
          generalize hz : ms x = y at q0 y0 y1 e3
          clear hx hz
          have hxm : (x : Int) < (m : Int) := by omega
          have hxn : (x : Int) < (n : Int) := by omega
          have hxb : decide ((x : Int) < 0) = false := decide_eq_false (by omega)
          have hxc : decide ((m : Int) ≤ (x : Int)) = false := decide_eq_false (by omega)
          have hxd : decide (m ≤ x) = false := decide_eq_false (by omega)

          by_cases hcut : 0 < out1.length
          · have hy : y ≤ cut := e3.2 hcut
            have hcI : (0 : Int) < (out1.length : Int) := by omega
            have hyb : decide (y ≤ cut) = true := decide_eq_true hy
            have hcb : decide ((0 : Int) < (out1.length : Int)) = true := decide_eq_true hcI
            have hcd : decide (0 < out1.length) = true := decide_eq_true hcut
            have rr := reg_c r0
            have qr := reg_c q0
            have sr := reg_c sS
            go_wp2_with fail
            refine wp_region_quiet_below (by kernel_rfl) (by kernel_rfl) ?_; (repeat (go_big_quiet_step ((fail)))); refine wpQuiet_nil ?_; intro _ hw'; obtain ⟨⟨dq, osq⟩, hw''⟩ := hw'; subst hw''
            have hbel := below_regrown wr dq osq
            obtain ⟨fS', hs1, hs2⟩ := hreg.out _ hbel
            have r9 : (Sort.grow (redrawn wr dq) osq).cell? ⟨g6, 0, none⟩ = some (.int .i64 (x : Int)) := rr ⟨dq, osq⟩
            have s9 : (Sort.grow (redrawn wr dq) osq).cell? ⟨gS, x, none⟩ = some (.bool false) := sr ⟨dq, osq⟩
            clear hbel
            go_wp2_with fail
            go_roundw
            case rel => exact ⟨0 + 1, by go_num, by omega, hs1, hs2⟩
            case measure => simp [intOf]; omega
          · have hy : ¬ y ≤ cut := fun h => hcut (e3.1 h)
            have hcI : ¬ (0 : Int) < (out1.length : Int) := by omega
            have hcb : decide ((0 : Int) < (out1.length : Int)) = false := decide_eq_false hcI
            have hcd : decide (0 < out1.length) = false := decide_eq_false hcut
            have hyb : decide (y ≤ cut) = false := decide_eq_false hy
            have rr := reg_c r0
            have qr := reg_c q0
            have sr := reg_c sS
            go_wp2_with fail
            refine wp_region_quiet_below (by kernel_rfl) (by kernel_rfl) ?_; (repeat (go_big_quiet_step ((fail)))); refine wpQuiet_nil ?_; intro _ hw'; obtain ⟨⟨dq, osq⟩, hw''⟩ := hw'; subst hw''
            have hbel := below_regrown wr dq osq
            obtain ⟨fS', hs1, hs2⟩ := hreg.out _ hbel
            have r9 : (Sort.grow (redrawn wr dq) osq).cell? ⟨g6, 0, none⟩ = some (.int .i64 (x : Int)) := rr ⟨dq, osq⟩
            have s9 : (Sort.grow (redrawn wr dq) osq).cell? ⟨gS, x, none⟩ = some (.bool false) := sr ⟨dq, osq⟩
            clear hbel
            go_wp2_with fail
            go_roundw
            case rel => exact ⟨0 + 1, by go_num, by omega, hs1, hs2⟩
            case measure => simp [intOf]; omega
        · obtain ⟨k', hk'⟩ : ∃ k', Hid (k = k' + 1) := ⟨k - 1, by show k = k - 1 + 1; omega⟩
          have hkk := hk'.out
          obtain ⟨f1, f2, _⟩ := HK.out k' (by omega)
          have rp := cellL k' _ f1
          have qp := cellA _ f2
          have hle := HM.out k (by omega) hkm
          rw [show k - 1 = k' by omega] at hle
          obtain ⟨z0, z1⟩ := HMS.out (κ k') (by omega)
          have hke : (k : Int) - 1 = (k' : Int) := by omega
          have hkpos : (0 : Int) < (k : Int) := by omega
          have hkpI : (k' : Int) < (m : Int) := by omega
          clear hkk f1 hk0
          have hkI : (k : Int) < (m : Int) := by omega
          clear cellL cellA c1 c2 c3 hSeen' e1

          generalize hx : κ k = x at r0 sS fS q0 y0 y1 e2 e3 hreg hle
          generalize hz : ms x = y at q0 y0 y1 e3 hle
          generalize hx' : κ k' = x' at rp qp z0 z1 f2 hle
          generalize hz' : ms x' = y' at qp z0 z1 hle
          clear hx hz hx' hz'
          have hxm : (x : Int) < (m : Int) := by omega
          have hxn : (x : Int) < (n : Int) := by omega
          have hxb : decide ((x : Int) < 0) = false := decide_eq_false (by omega)
          have hxc : decide ((m : Int) ≤ (x : Int)) = false := decide_eq_false (by omega)
          have hxd : decide (m ≤ x) = false := decide_eq_false (by omega)
          have hpn : (x' : Int) < (n : Int) := by omega
          have hyy : decide (y < y') = false := decide_eq_false (by omega)
          have hkb : decide ((0 : Int) < (k : Int)) = true := decide_eq_true (by omega)
          have hkd : decide (0 < k) = true := decide_eq_true (by omega)

          by_cases hcut : k < out1.length
          · have hy : y ≤ cut := e3.2 hcut
            have hcI : (k : Int) < (out1.length : Int) := by omega
            have hyb : decide (y ≤ cut) = true := decide_eq_true hy
            have hcb : decide ((k : Int) < (out1.length : Int)) = true := decide_eq_true hcI
            have hcd : decide (k < out1.length) = true := decide_eq_true hcut
            have rr := reg_c r0
            have qr := reg_c q0
            have sr := reg_c sS
            have rpr := reg_c rp
            have qpr := reg_c qp
            go_wp2_with fail
            refine wp_region_quiet_below (by kernel_rfl) (by kernel_rfl) ?_; (repeat (go_big_quiet_step ((fail)))); refine wpQuiet_nil ?_; intro _ hw'; obtain ⟨⟨dq, osq⟩, hw''⟩ := hw'; subst hw''
            have hbel := below_regrown wr dq osq
            obtain ⟨fS', hs1, hs2⟩ := hreg.out _ hbel
            have r9 : (Sort.grow (redrawn wr dq) osq).cell? ⟨g6, k, none⟩ = some (.int .i64 (x : Int)) := rr ⟨dq, osq⟩
            have s9 : (Sort.grow (redrawn wr dq) osq).cell? ⟨gS, x, none⟩ = some (.bool false) := sr ⟨dq, osq⟩
            clear hbel
            go_wp2_with fail
            go_roundw
            case rel => exact ⟨k + 1, by go_num, by omega, hs1, hs2⟩
            case measure => simp [intOf]; omega
          · have hy : ¬ y ≤ cut := fun h => hcut (e3.1 h)
            have hcI : ¬ (k : Int) < (out1.length : Int) := by omega
            have hcb : decide ((k : Int) < (out1.length : Int)) = false := decide_eq_false hcI
            have hcd : decide (k < out1.length) = false := decide_eq_false hcut
            have hyb : decide (y ≤ cut) = false := decide_eq_false hy
            have rr := reg_c r0
            have qr := reg_c q0
            have sr := reg_c sS
            have rpr := reg_c rp
            have qpr := reg_c qp
            go_wp2_with fail
            refine wp_region_quiet_below (by kernel_rfl) (by kernel_rfl) ?_; (repeat (go_big_quiet_step ((fail)))); refine wpQuiet_nil ?_; intro _ hw'; obtain ⟨⟨dq, osq⟩, hw''⟩ := hw'; subst hw''
            have hbel := below_regrown wr dq osq
            obtain ⟨fS', hs1, hs2⟩ := hreg.out _ hbel
            have r9 : (Sort.grow (redrawn wr dq) osq).cell? ⟨g6, k, none⟩ = some (.int .i64 (x : Int)) := rr ⟨dq, osq⟩
            have s9 : (Sort.grow (redrawn wr dq) osq).cell? ⟨gS, x, none⟩ = some (.bool false) := sr ⟨dq, osq⟩
            clear hbel
            go_wp2_with fail
            go_roundw
            case rel => exact ⟨k + 1, by go_num, by omega, hs1, hs2⟩
            case measure => simp [intOf]; omega
      · have : k = m := by omega
        subst this
        go_wp2
        go_ret
        exact ⟨rfl, hB6.trans (hbr.mono (by have := hB6.size; omega))⟩
end Go.Proofs.Ytlaagbnclkhbjaa
