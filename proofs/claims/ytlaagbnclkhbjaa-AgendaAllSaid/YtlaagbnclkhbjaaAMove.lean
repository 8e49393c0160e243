/- Agenda: Move, Drop. -/
import Derived.Test.YtlaagbnclkhbjaaAMoved
import Derived.StillTailTactics
namespace Go.Proofs.Ytlaagbnclkhbjaa
open Go.RowKit Go.Maps
set_option linter.unusedSimpArgs false
set_option linter.unusedVariables false
set_option maxRecDepth 100000
theorem wp_world {P : Program} {c : Code} {Q : Exit → Act → World → Prop} {a : Act} {w : World} (S : World → Prop) (h : S w) (H : ∀ W, S W → c.wp P Q a W) : c.wp P Q a w := H w h
set_option maxHeartbeats 2000000 in
theorem Move_c {F : Nat → Prop} {w : World} {p c : Nat} {l : List (Int × Int)} (h : Ag F w p c l) (hc : c ≤ 10000000) (a x : Int) (hx : Wf x) :
    Calls Try.prog 10 #[.pointer (some ⟨p, 0, none⟩), .int .i64 a, .int .i64 x] w fun e w' => e = .returned (.int .i64 (moveE l a x)) ∧ Aft F w p c w' (moveL l a x) := by
  obtain ⟨S, m, n, κ, A, O, I, L, cnt, D, hB, hSF, hFm, hFb, hl⟩ := h
  have same : Ag F w p c l := ⟨S, m, n, κ, A, O, I, L, cnt, D, hB, hSF, hFm, hFb, hl⟩
  by_cases ha : okAt a = true
  · have ha' : Hid (decide (0 ≤ a ∧ a ≤ 1099511627776) = true) := ha
    obtain ⟨sl, hd⟩ := hB.hdp
    have c1 : w.cell? ⟨p, 1, none⟩ = some (.map (some m)) := by rw [cell_b hd]; rfl
    have c2 : w.cell? ⟨p, 2, none⟩ = some (.int .i64 (c : Int)) := by rw [cell_b hd]; rfl
    have f2 : w.frozen? ⟨p, 2, none⟩ = false := froz_b hd
    have hplt : p < w.heap.size := (Array.getElem?_eq_some_iff.1 hd).1
    have hcI : (c : Int) ≤ 10000000 := by omega
    cases hf : L.find? (fun k => I k == x) with
    | none =>
      have hh : hasId l x = false := by rw [hl, any_find, hf]; rfl
      have hr := look_none hB.map hx (by rw [hB.key x, hf])
      have e1 : Hid (moveE l a x = 7) := by unfold moveE; rw [if_pos ha, hh]; exact rfl
      have e2 : moveL l a x = l := by unfold moveL; simp [hh]
      have hA : Aft F w p c w (moveL l a x) := by rw [e2]; exact Aft.same same
      go_enter Try.func10, Try.ntmps10
      go_wp2_with fail
      refine (right_c p a w).mono ?_
      rintro e w1 ⟨rfl, he⟩
      obtain rfl := he.symm
      rw [ha'.out]
      go_wp2
      go_ret
      exact ⟨by rw [e1.out]; rfl, hA⟩
    | some k =>
      obtain ⟨hkL, hkx⟩ := find_some_key hf
      have hh : hasId l x = true := by rw [hl, any_find, hf]; rfl
      have hr := look_some hB.map hx (k := k) (by rw [hB.key x, hf])
      have e1 : Hid (moveE l a x = 0) := by unfold moveE; rw [if_pos ha, hh]; exact rfl
      have e2 : Hid (moveL l a x = rmId l x ++ [(a, x)]) := by unfold moveL; exact if_pos (by simp [ha, hh])
      obtain ⟨i, hi, hki, hkb, hklt, hkS⟩ := hB.kin hkL
      have hpk : p ≠ k := fun e => by rw [e, hkb] at hd; simp at hd
      have hkp : k ≠ p := hpk.symm
      have k0 : w.cell? ⟨k, 0, none⟩ = some (.int .i64 (A k)) := by rw [cell_b hkb]; rfl
      have k1 : w.cell? ⟨k, 1, none⟩ = some (.int .i64 (O k)) := by rw [cell_b hkb]; rfl
      have k3 : w.cell? ⟨k, 3, none⟩ = some (.int .i64 (i : Int)) := by rw [cell_b hkb]; rfl
      have g0 : w.frozen? ⟨k, 0, none⟩ = false := froz_b hkb
      have g1 : w.frozen? ⟨k, 1, none⟩ = false := froz_b hkb
      have hfar : ∀ (V : World) (p a : Addr) (v : Value), p.block ≠ a.block → (V.setCell p v).cell? a = V.cell? a := fun V p a v h => World.cell?_setCell_far V p a v h
      obtain ⟨es, cl, hm⟩ := hB.heapm
      have hmp : m ≠ p := fun e => by rw [e, hd] at hm; simp at hm
      have hmk : m ≠ k := fun e => by rw [e, hkb] at hm; simp at hm
      go_enter Try.func10, Try.ntmps10
      go_wp2_with fail
      refine (right_c p a w).mono ?_
      rintro e w1 ⟨rfl, he⟩
      obtain rfl := he.symm
      rw [ha'.out]
      go_wp2_with fail
      refine wp_world (fun W => W.heap[p]? = some (.cells #[sl, .map (some m), .int .i64 ((c : Int) + 1)] 53 (0, 0)) ∧ W.heap[k]? = some (.cells #[.int .i64 a, .int .i64 ((c : Int) + 1), .int .i64 (I k), .int .i64 (i : Int)] 56 (0, 0)) ∧ (∀ b, b ≠ p → b ≠ k → W.heap[b]? = w.heap[b]?) ∧ W.heap.size = w.heap.size ∧ Ro w W) ?_ ?_
      · refine ⟨?_, ?_, fun b hbp hbk => ?_, by simp only [sc_size], rfl, rfl, rfl⟩
        · rw [sc_ne hpk, sc_ne hpk, sc_at hd]; rfl
        · rw [sc_at (sc_at (c := #[.int .i64 (A k), .int .i64 (O k), .int .i64 (I k), .int .i64 (i : Int)]) (t := 56) (f := (0, 0)) (by rw [sc_ne hkp]; exact hkb))]; rfl
        · rw [sc_ne hbk, sc_ne hbk, sc_ne hbp]
      rintro W ⟨hWp, hWk, hWo, hWs, hWr⟩
      have j3 : W.cell? ⟨k, 3, none⟩ = some (.int .i64 (i : Int)) := by rw [cell_b hWk]; rfl
      go_still_tail 8, (by kernel_rfl)
      change wpList _ _ _ _ _ W.drew
      obtain ⟨V, hV⟩ : ∃ V, V = W.drew := ⟨_, rfl⟩
      rw [← hV]
      have hVh : V.heap = W.heap := by rw [hV]; rfl
      have hVr : Ro w V := by rw [hV]; exact hWr
      clear hV
      have hcc : ((c : Int) + 1) = ((c + 1 : Nat) : Int) := by omega
      have hq2 : Hq S V p n (.map (some m)) (.int .i64 ((c + 1 : Nat) : Int)) κ (upd A k a) (upd O k ((c : Int) + 1)) I := by
        obtain ⟨sl', q1, q2, q3⟩ := hB.hq.hd
        have hsl : sl' = sl := by rw [hd] at q1; simpa using q1.symm
        subst hsl
        refine ⟨⟨sl', by rw [hVh, hWp, hcc], owns_of q2 (fun g hg => ?_), q3⟩, fun j hj => ?_, hB.hq.inj, hB.hq.sk⟩
        · rw [hVh]
          rcases q2.2 with ⟨rfl, _⟩ | ⟨g', cap, cur, rfl, _, hgg, _⟩
          · simp [Value.ownBlock] at hg
          · simp [Value.ownBlock] at hg
            subst hg
            exact hWo _ (fun e => by rw [e, hd] at hgg; simp at hgg) (fun e => by rw [e, hkb] at hgg; simp at hgg)
        · rw [hVh]
          by_cases e : κ j = k
          · have : j = i := hB.hq.inj j i hj hi (e.trans hki.symm)
            subst this
            rw [e, upd_s, upd_s]
            exact hWk
          · have hj' := hB.hq.it j hj
            rw [hWo _ (fun e2 => by rw [e2, hd] at hj'; simp at hj') e, upd_o _ _ _ _ e, upd_o _ _ _ _ e]
            exact hj'
      have hom2 : OM V m cnt D := owns_map hB.map (by rw [hVh]; exact hWo m hmp hmk)
      have hnb := hB.nb
      clear hcc
      go_wp2_with fail
      refine (Fix_h hq2 (by omega) i hi).mono ?_
      rintro e w4 ⟨rfl, h4, hf4⟩
      have hVs : V.heap.size = w.heap.size := by rw [hVh]; exact hWs
      have hm4 : w4.heap[m]? = V.heap[m]? := hf4.same m (by rw [hVs]; exact (Array.getElem?_eq_some_iff.1 hm).1) hB.sm
      subst hki
      have hR := hB.move a w4 i hi h4 (owns_map hom2 hm4)
      go_wp2
      go_ret
      refine ⟨by rw [e1.out]; rfl, F, c + 1, ⟨S, m, n, _, _, _, _, _, _, _, hR, hSF, hFm, fun b hb => by have h1 := hFb b hb; have h2 := hf4.size; omega, ?_⟩, by omega, ⟨by rw [← hVs]; exact hf4.size, fun b hb hbF => ?_, hVr.trans hf4.ro⟩, fun b hb => .inl hb⟩
      · rw [e2.out, hl, List.map_append, ← hkx, ← hB.rm hkL]
        congr 1
        · refine List.map_congr_left (fun y hy => ?_)
          rw [mem_er hB.up] at hy
          rw [upd_o _ _ _ _ hy.1]
        · simp [upd_s]
      · rw [hf4.same b (by omega) (fun hh => hbF (hSF b hh)), hVh]
        exact hWo b (fun e => hbF (e ▸ hSF p hB.sp)) (fun e => hbF (e ▸ hSF _ hkS))
  · have ha' : Hid (decide (0 ≤ a ∧ a ≤ 1099511627776) = false) := by rw [Bool.not_eq_true] at ha; exact ha
    have e1 : Hid (moveE l a x = 1) := if_neg ha
    have e2 : moveL l a x = l := by unfold moveL; simp [ha]
    have hA : Aft F w p c w (moveL l a x) := by rw [e2]; exact Aft.same same
    go_enter Try.func10, Try.ntmps10
    go_wp2_with fail
    refine (right_c p a w).mono ?_
    rintro e w1 ⟨rfl, he⟩
    obtain rfl := he.symm
    rw [ha'.out]
    go_wp2
    go_ret
    exact ⟨by rw [e1.out]; rfl, hA⟩
end Go.Proofs.Ytlaagbnclkhbjaa
