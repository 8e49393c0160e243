/- Topo: Sound, both. -/
import Derived.Test.YtgebehnlfihliaaTop2
namespace Go.Proofs.Ytgebehnlfihliaa
open Go.RowKit
set_option linter.unusedSimpArgs false
set_option linter.unusedVariables false
set_option maxRecDepth 100000
def longB (T : Tp) (k : Nat) : Bool := (List.range k).any fun i => decide (6 < T.ln i)
def badRow (T : Tp) (i m : Nat) : Bool := (List.range m).any fun j => !portOk T i j
def badB (T : Tp) (k : Nat) : Bool := (List.range k).any fun i => badRow T i (T.ln i)
def soundE (T : Tp) : Int := if T.n = 0 ∨ 6 < T.n then 4 else if longB T T.n then 4 else if badB T T.n then 2 else 0
theorem longB_succ (T : Tp) (k : Nat) : longB T (k + 1) = (longB T k || decide (6 < T.ln k)) := by simp [longB, List.range_succ]
theorem badRow_succ (T : Tp) (i m : Nat) : badRow T i (m + 1) = (badRow T i m || !portOk T i m) := by simp [badRow, List.range_succ]
theorem badB_succ (T : Tp) (k : Nat) : badB T (k + 1) = (badB T k || badRow T k (T.ln k)) := by simp [badB, List.range_succ]
theorem longB_hit {T : Tp} {k : Nat} (hk : k < T.n) (h : 6 < T.ln k) : longB T T.n = true := by
  unfold longB
  rw [List.any_eq_true]
  exact ⟨k, by simpa using hk, by simpa using h⟩
theorem badB_hit {T : Tp} {k j : Nat} (hk : k < T.n) (hj : j < T.ln k) (h : portOk T k j = false) : badB T T.n = true := by
  unfold badB
  rw [List.any_eq_true]
  refine ⟨k, by simpa using hk, ?_⟩
  unfold badRow
  rw [List.any_eq_true]
  exact ⟨j, by simpa using hj, by simp [h]⟩
theorem longB_le {T : Tp} {k i : Nat} (h : longB T k = false) (hi : i < k) : T.ln i ≤ 6 := by
  unfold longB at h
  rw [List.any_eq_false] at h
  have := h i (by simpa using hi)
  simpa using this
set_option maxHeartbeats 8000000 in
theorem tsound_c {o : Option Addr} {cap : Nat} {T : Tp} {w : World} (h : TA w o cap T) :
    Calls Try.prog 17 #[.agg #[.slice o T.n cap]] w fun e w' => e = .returned (.int .i64 (soundE T)) ∧ RowKit.Below w.heap.size w w' := by
  obtain ⟨b, off, ro, rc, rb, rf, h1, h2, h3, h4, h5⟩ := h.ex
  have H4 := Lib.hid h4
  have H1 := Lib.hid h1
  clear h4 h5 h1
  obtain ⟨n, hn⟩ : ∃ n, Hid (T.n = n) := ⟨_, rfl⟩
  rw [hn.out] at h2 ⊢
  by_cases n0 : n = 0
  · subst n0
    have he : Hid (soundE T = 4) := if_pos (.inl hn.out)
    rw [he.out]
    go_enter Try.func17, Try.ntmps17
    go_wp2_with fail
    go_ret
    exact ⟨rfl, (Below.refl _ _).alloc (Nat.le_refl _) _⟩
  have n0b : ((n : Int) == 0) = false := by simpa using n0
  have n0c : (n == 0) = false := by simpa using n0
  by_cases n6 : 6 < n
  · have he : Hid (soundE T = 4) := if_pos (.inr (by rw [hn.out]; exact n6))
    rw [he.out]
    go_enter Try.func17, Try.ntmps17
    go_wp2_with fail
    all_goals go_ret
    all_goals exact ⟨rfl, (Below.refl _ _).alloc (Nat.le_refl _) _⟩
  have n6i : ¬ (6 : Int) < (n : Int) := by omega
  obtain rfl := H1.out (by rw [hn.out]; omega)
  go_enter Try.func17, Try.ntmps17
  go_wp2_with fail
  refine wp_world (fun W => W.cell? ⟨w.heap.size, 0, none⟩ = some (.slice (some ⟨b, off, none⟩) n cap) ∧ RowKit.Below w.heap.size w W) ?_ ?_
  · exact ⟨by rw [cell_b (heap_alloc_new w _)]; rfl, (Below.refl _ _).alloc (Nat.le_refl _) _⟩
  obtain ⟨gb, hgb⟩ : ∃ gb, Hid (gb = w.heap.size) := ⟨_, rfl⟩
  rw [← hgb.out]
  rintro W ⟨x0, hbW⟩
  rw [hgb.out] at hbW
  have rows : ∀ V, RowKit.Below w.heap.size w V → ∀ i, i < n → V.cell? ⟨b, off + i, none⟩ = some (.slice (ro i) (T.ln i) (rc i)) := fun V hV i hi => cell_below hV (H4.out i (by rw [hn.out]; exact hi)).1
  have ROWS := Lib.hid rows
  clear rows
  go_loopw [21] (fun v wr => ∃ k : Nat, v = .int .i64 (k : Int) ∧ k ≤ n ∧ longB T k = false ∧ wr = W) (fun v _ => n - (intOf v).toNat)
  case atStart => exact ⟨0, rfl, Nat.zero_le _, rfl, rfl⟩
  case round =>
    obtain ⟨k, rfl, hk, hl, hwe⟩ := hrel
    obtain rfl := hwe.symm
    by_cases hlt : k < n
    · have r0 := ROWS.out W hbW k hlt
      have hltI : (k : Int) < (n : Int) := by omega
      by_cases hlong : 6 < T.ln k
      · have he : Hid (soundE T = 4) := by
          unfold soundE
          rw [if_neg (by rw [hn.out]; omega), if_pos (longB_hit (by rw [hn.out]; exact hlt) hlong)]
          exact rfl
        generalize T.ln k = m at r0 hlong
        clear hl
        go_wp2_with fail
        all_goals go_ret
        all_goals exact ⟨by rw [he.out]; rfl, hbW⟩
      · have hl2 : Hid (longB T (k + 1) = false) := by rw [longB_succ, hl]; simp [hlong]; exact trivial
        generalize T.ln k = m at r0 hlong
        have hm : ¬ (6 : Int) < (m : Int) := by omega
        clear hl
        go_wp2_with fail
        go_roundw
        case rel => first | exact ⟨k + 1, by go_num, by omega, hl2.out, rfl⟩ | exact ⟨k + 1, by go_num, by omega, hl2.out, trivial⟩ | exact ⟨k + 1, by go_num, by omega, hl2.out⟩
        case measure => simp [intOf]; omega
    · have : k = n := by omega
      subst this
      have HL := Lib.hid hl
      clear hl hlt
      have hle : ∀ i, i < k → T.ln i ≤ 6 := fun i hi => longB_le HL.out hi
      have HLE := Lib.hid hle
      have hL2 : Hid (longB T T.n = false) := by rw [hn.out]; exact HL.out
      clear hle
      go_wp2_with fail
      go_loopw [32] (fun v wr => ∃ i : Nat, v = .int .i64 (i : Int) ∧ i ≤ k ∧ badB T i = false ∧ RowKit.Below W.heap.size W wr) (fun v _ => k - (intOf v).toNat)
      case atStart => exact ⟨0, rfl, Nat.zero_le _, rfl, Below.refl _ _⟩
      case round =>
        obtain ⟨i, rfl, hik, hbad, hbr⟩ := hrel
        have HB := Lib.hid hbad
        clear hbad
        have hbV : RowKit.Below w.heap.size w wr := hbW.trans (hbr.mono hbW.size)
        by_cases hlt : i < k
        · have r0 := ROWS.out wr hbV i hlt
          have xr := cell_below hbr x0
          have hltI : (i : Int) < (k : Int) := by omega
          obtain ⟨m, hm⟩ : ∃ m, Hid (T.ln i = m) := ⟨_, rfl⟩
          rw [hm.out] at r0
          have hm6 : m ≤ 6 := by rw [← hm.out]; exact HLE.out i hlt
          go_wp2_with fail
          go_loopw [39] (fun v wr2 => ∃ j : Nat, v = .int .i64 (j : Int) ∧ j ≤ m ∧ badRow T i j = false ∧ RowKit.Below W.heap.size W wr2) (fun v _ => m - (intOf v).toNat)
          case atStart => exact ⟨0, rfl, Nat.zero_le _, rfl, hbr⟩
          case round =>
            obtain ⟨j, rfl, hjm, hbd, hbr2⟩ := hrel
            have HB2 := Lib.hid hbd
            clear hbd
            have hbV2 := hbW.trans (hbr2.mono hbW.size)
            have hbs2 := hbr2.size
            by_cases hjl : j < m
            · have hjI : (j : Int) < (m : Int) := by omega
              have xr2 := cell_below hbr2 x0
              have hp := port_c (h.below hbV2) i j (by rw [hn.out]; exact hlt) (by rw [hm.out]; exact hjl)
              rw [hn.out] at hp
              cases hok : portOk T i j with
              | true =>
                have hstep : Hid (badRow T i (j + 1) = false) := by rw [badRow_succ, HB2.out, hok]; exact rfl
                rw [hok] at hp
                clear hok
                go_wp2_with fail
                refine hp.mono ?_
                rintro e w3 ⟨rfl, hb3⟩
                go_wp2_with fail
                go_roundw
                case rel => exact ⟨j + 1, by go_num, by omega, hstep.out, hbr2.trans (hb3.mono hbs2)⟩
                case measure => simp [intOf]; omega
              | false =>
                have he : Hid (soundE T = 2) := by
                  unfold soundE
                  rw [if_neg (by rw [hn.out]; omega), hL2.out, badB_hit (by rw [hn.out]; exact hlt) (by rw [hm.out]; exact hjl) hok]
                  exact rfl
                rw [hok] at hp
                clear hok
                go_wp2_with fail
                refine hp.mono ?_
                rintro e w3 ⟨rfl, hb3⟩
                go_wp2_with fail
                go_ret
                exact ⟨by rw [he.out]; rfl, hbV2.trans (hb3.mono hbV2.size)⟩
            · have : j = m := by omega
              subst this
              have hstep : Hid (badB T (i + 1) = false) := by rw [badB_succ, HB.out, hm.out, HB2.out]; exact rfl
              go_wp2_with fail
              go_roundw
              case rel => exact ⟨i + 1, by go_num, by omega, hstep.out, hbr2⟩
              case measure => simp [intOf]; omega
        · have : i = k := by omega
          subst this
          have he : Hid (soundE T = 0) := by
            unfold soundE
            rw [if_neg (by rw [hn.out]; omega), hL2.out, hn.out, HB.out]
            exact rfl
          go_wp2_with fail
          go_ret
          exact ⟨by rw [he.out]; rfl, hbV⟩
set_option maxHeartbeats 8000000 in
theorem rsound_c {o : Option Addr} {cap : Nat} {T : Tp} {w : World} (h : TA w o cap T) :
    Calls Try.prog 14 #[.agg #[.slice o T.n cap]] w fun e w' => e = .returned (.int .i64 (soundE T)) ∧ RowKit.Below w.heap.size w w' := by
  obtain ⟨b, off, ro, rc, rb, rf, h1, h2, h3, h4, h5⟩ := h.ex
  have H4 := Lib.hid h4
  have H1 := Lib.hid h1
  clear h4 h5 h1
  obtain ⟨n, hn⟩ : ∃ n, Hid (T.n = n) := ⟨_, rfl⟩
  rw [hn.out] at h2 ⊢
  by_cases n0 : n = 0
  · subst n0
    have he : Hid (soundE T = 4) := if_pos (.inl hn.out)
    rw [he.out]
    go_enter Try.func14, Try.ntmps14
    go_wp2_with fail
    go_ret
    exact ⟨rfl, (Below.refl _ _).alloc (Nat.le_refl _) _⟩
  have n0b : decide ((n : Int) < 1) = false := decide_eq_false (by omega)
  have n0d : decide (n < 1) = false := decide_eq_false (by omega)
  have n0c : (n == 0) = false := by simpa using n0
  by_cases n6 : 6 < n
  · have he : Hid (soundE T = 4) := if_pos (.inr (by rw [hn.out]; exact n6))
    rw [he.out]
    go_enter Try.func14, Try.ntmps14
    go_wp2_with fail
    all_goals go_ret
    all_goals exact ⟨rfl, (Below.refl _ _).alloc (Nat.le_refl _) _⟩
  have n6i : ¬ (6 : Int) < (n : Int) := by omega
  obtain rfl := H1.out (by rw [hn.out]; omega)
  go_enter Try.func14, Try.ntmps14
  go_wp2_with fail
  refine wp_world (fun W => W.cell? ⟨w.heap.size, 0, none⟩ = some (.slice (some ⟨b, off, none⟩) n cap) ∧ RowKit.Below w.heap.size w W) ?_ ?_
  · exact ⟨by rw [cell_b (heap_alloc_new w _)]; rfl, (Below.refl _ _).alloc (Nat.le_refl _) _⟩
  obtain ⟨gb, hgb⟩ : ∃ gb, Hid (gb = w.heap.size) := ⟨_, rfl⟩
  rw [← hgb.out]
  rintro W ⟨x0, hbW⟩
  rw [hgb.out] at hbW
  have rows : ∀ V, RowKit.Below w.heap.size w V → ∀ i, i < n → V.cell? ⟨b, off + i, none⟩ = some (.slice (ro i) (T.ln i) (rc i)) := fun V hV i hi => cell_below hV (H4.out i (by rw [hn.out]; exact hi)).1
  have ROWS := Lib.hid rows
  clear rows
  go_loopw [3] (fun v wr => ∃ k : Nat, v = .int .i64 (k : Int) ∧ k ≤ n ∧ longB T k = false ∧ wr = W) (fun v _ => n - (intOf v).toNat)
  case atStart => exact ⟨0, rfl, Nat.zero_le _, rfl, rfl⟩
  case round =>
    obtain ⟨k, rfl, hk, hl, hwe⟩ := hrel
    obtain rfl := hwe.symm
    by_cases hlt : k < n
    · have r0 := ROWS.out W hbW k hlt
      have hltI : (k : Int) < (n : Int) := by omega
      by_cases hlong : 6 < T.ln k
      · have he : Hid (soundE T = 4) := by
          unfold soundE
          rw [if_neg (by rw [hn.out]; omega), if_pos (longB_hit (by rw [hn.out]; exact hlt) hlong)]
          exact rfl
        generalize T.ln k = m at r0 hlong
        clear hl
        go_wp2_with fail
        all_goals go_ret
        all_goals exact ⟨by rw [he.out]; rfl, hbW⟩
      · have hl2 : Hid (longB T (k + 1) = false) := by rw [longB_succ, hl]; simp [hlong]; exact trivial
        generalize T.ln k = m at r0 hlong
        have hm : ¬ (6 : Int) < (m : Int) := by omega
        clear hl
        go_wp2_with fail
        go_roundw
        case rel => first | exact ⟨k + 1, by go_num, by omega, hl2.out, rfl⟩ | exact ⟨k + 1, by go_num, by omega, hl2.out, trivial⟩ | exact ⟨k + 1, by go_num, by omega, hl2.out⟩
        case measure => simp [intOf]; omega
    · have : k = n := by omega
      subst this
      have HL := Lib.hid hl
      clear hl hlt
      have hle : ∀ i, i < k → T.ln i ≤ 6 := fun i hi => longB_le HL.out hi
      have HLE := Lib.hid hle
      have hL2 : Hid (longB T T.n = false) := by rw [hn.out]; exact HL.out
      clear hle
      go_wp2_with fail
      go_loopw [4] (fun v wr => ∃ i : Nat, v = .int .i64 (i : Int) ∧ i ≤ k ∧ badB T i = false ∧ RowKit.Below W.heap.size W wr) (fun v _ => k - (intOf v).toNat)
      case atStart => exact ⟨0, rfl, Nat.zero_le _, rfl, Below.refl _ _⟩
      case round =>
        obtain ⟨i, rfl, hik, hbad, hbr⟩ := hrel
        have HB := Lib.hid hbad
        clear hbad
        have hbV : RowKit.Below w.heap.size w wr := hbW.trans (hbr.mono hbW.size)
        by_cases hlt : i < k
        · have r0 := ROWS.out wr hbV i hlt
          have xr := cell_below hbr x0
          have hltI : (i : Int) < (k : Int) := by omega
          obtain ⟨m, hm⟩ : ∃ m, Hid (T.ln i = m) := ⟨_, rfl⟩
          rw [hm.out] at r0
          have hm6 : m ≤ 6 := by rw [← hm.out]; exact HLE.out i hlt
          go_wp2_with fail
          go_loopw [5] (fun v wr2 => ∃ j : Nat, v = .int .i64 (j : Int) ∧ j ≤ m ∧ badRow T i j = false ∧ RowKit.Below W.heap.size W wr2) (fun v _ => m - (intOf v).toNat)
          case atStart => exact ⟨0, rfl, Nat.zero_le _, rfl, hbr⟩
          case round =>
            obtain ⟨j, rfl, hjm, hbd, hbr2⟩ := hrel
            have HB2 := Lib.hid hbd
            clear hbd
            have hbV2 := hbW.trans (hbr2.mono hbW.size)
            have hbs2 := hbr2.size
            by_cases hjl : j < m
            · have hjI : (j : Int) < (m : Int) := by omega
              have xr2 := cell_below hbr2 x0
              have r02 := ROWS.out wr hbV2 i hlt
              rw [hm.out] at r02
              have hp := rport_c (h.below hbV2) i j (by rw [hn.out]; exact hlt) (by rw [hm.out]; exact hjl)
              rw [hn.out] at hp
              cases hok : portOk T i j with
              | true =>
                have hstep : Hid (badRow T i (j + 1) = false) := by rw [badRow_succ, HB2.out, hok]; exact rfl
                rw [hok] at hp
                clear hok
                go_wp2_with fail
                refine hp.mono ?_
                rintro e w3 ⟨rfl, hb3⟩
                go_wp2_with fail
                go_roundw
                case rel => exact ⟨j + 1, by go_num, by omega, hstep.out, hbr2.trans (hb3.mono hbs2)⟩
                case measure => simp [intOf]; omega
              | false =>
                have he : Hid (soundE T = 2) := by
                  unfold soundE
                  rw [if_neg (by rw [hn.out]; omega), hL2.out, badB_hit (by rw [hn.out]; exact hlt) (by rw [hm.out]; exact hjl) hok]
                  exact rfl
                rw [hok] at hp
                clear hok
                go_wp2_with fail
                refine hp.mono ?_
                rintro e w3 ⟨rfl, hb3⟩
                go_wp2_with fail
                go_ret
                exact ⟨by rw [he.out]; rfl, hbV2.trans (hb3.mono hbV2.size)⟩
            · have xr2 := cell_below hbr2 x0
              have r02 := ROWS.out wr hbV2 i hlt
              rw [hm.out] at r02
              have : j = m := by omega
              subst this
              have hstep : Hid (badB T (i + 1) = false) := by rw [badB_succ, HB.out, hm.out, HB2.out]; exact rfl
              go_wp2_with fail
              go_roundw
              case rel => exact ⟨i + 1, by go_num, by omega, hstep.out, hbr2⟩
              case measure => simp [intOf]; omega
        · have xr := cell_below hbr x0
          have : i = k := by omega
          subst this
          have he : Hid (soundE T = 0) := by
            unfold soundE
            rw [if_neg (by rw [hn.out]; omega), hL2.out, hn.out, HB.out]
            exact rfl
          go_wp2_with fail
          go_ret
          exact ⟨by rw [he.out]; rfl, hbV⟩
end Go.Proofs.Ytgebehnlfihliaa
