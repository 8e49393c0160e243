/- Agenda: Add. -/
import Derived.Test.YtlaagbnclkhbjaaAState
namespace Go.Proofs.Ytlaagbnclkhbjaa
open Go.RowKit Go.Maps
set_option linter.unusedSimpArgs false
set_option linter.unusedVariables false
set_option maxRecDepth 100000
theorem sc_map {w : World} {b o m : Nat} {v : Value} {es : Array MapEntry} {cl : Nat} (h : w.heap[m]? = some (.map es cl)) : (w.setCell ⟨b, o, none⟩ v).heap[m]? = some (.map es cl) := by
  simp [World.setCell, Array.getElem?_modify, h]
theorem AgB.hdp {S : Nat → Prop} {w : World} {p c m n : Nat} {κ : Nat → Nat} {A O I : Nat → Int} {L : List Nat} {cnt : Nat} {D : DU} (h : AgB S w p c m n κ A O I L cnt D) : ∃ sl, w.heap[p]? = some (.cells #[sl, .map (some m), .int .i64 (c : Int)] 53 (0, 0)) := by
  obtain ⟨sl, h1, _⟩ := h.hq.hd
  exact ⟨sl, h1⟩
theorem find_some_key {L : List Nat} {I : Nat → Int} {x : Int} {k : Nat} (h : L.find? (fun k => I k == x) = some k) : k ∈ L ∧ I k = x := by
  refine ⟨List.mem_of_find?_eq_some h, ?_⟩
  have := List.find?_some h
  simpa using this
theorem find_congr {L : List Nat} {I I' : Nat → Int} (h : ∀ k ∈ L, I' k = I k) (x : Int) : L.find? (fun k => I' k == x) = L.find? (fun k => I k == x) := by
  induction L with
  | nil => rfl
  | cons a t ih =>
    rw [List.find?_cons, List.find?_cons, h a (by simp), ih (fun k hk => h k (by simp [hk]))]
theorem AgB.kin {S : Nat → Prop} {w : World} {p c m n : Nat} {κ : Nat → Nat} {A O I : Nat → Int} {L : List Nat} {cnt : Nat} {D : DU} (h : AgB S w p c m n κ A O I L cnt D) {k : Nat} (hk : k ∈ L) : ∃ i, i < n ∧ κ i = k ∧ w.heap[k]? = some (.cells #[.int .i64 (A k), .int .i64 (O k), .int .i64 (I k), .int .i64 (i : Int)] 56 (0, 0)) ∧ k < w.heap.size ∧ S k := by
  obtain ⟨i, hi, rfl⟩ := (h.set k).1 hk
  exact ⟨i, hi, rfl, h.hq.it i hi, (Array.getElem?_eq_some_iff.1 (h.hq.it i hi)).1, h.hq.sk i hi⟩
theorem AgB.add {S : Nat → Prop} {w : World} {p c m n : Nat} {κ : Nat → Nat} {A O I : Nat → Int} {L : List Nat} {cnt : Nat} {D : DU} (h : AgB S w p c m n κ A O I L cnt D) (a x : Int) (hx : Wf x) (hf : L.find? (fun k => I k == x) = none) (w3 : World) (k : Nat) (hk : k = w.heap.size) (S' : Nat → Prop) (hS' : S' = fun b => S b ∨ w.heap.size ≤ b)
    (hq : Hq S' w3 p (n + 1) (.map (some m)) (.int .i64 ((c + 1 : Nat) : Int)) (upF (bef (upd A k a) (upd O k ((c : Int) + 1))) (pushF κ n k) n) (upd A k a) (upd O k ((c : Int) + 1)) (upd I k x))
    (hom : OM w3 m (cnt + 1) (D.put (.int .i64 x) (.lit (.int .i64 (k : Int))))) :
    AgB S' w3 p (c + 1) m (n + 1) (upF (bef (upd A k a) (upd O k ((c : Int) + 1))) (pushF κ n k) n) (upd A k a) (upd O k ((c : Int) + 1)) (upd I k x) (L ++ [k]) (cnt + 1) (D.put (.int .i64 x) (.lit (.int .i64 (k : Int)))) := by
  have hkn : ∀ y ∈ L, y ≠ k := fun y hy e => by
    obtain ⟨i, _, _, _, h4, _⟩ := h.kin hy
    omega
  have hkk : ∀ i, i < n → κ i ≠ k := fun i hi => hkn _ ((h.set _).2 ⟨i, hi, rfl⟩)
  obtain ⟨es, cl, hm⟩ := h.heapm
  have hml : m < w.heap.size := (Array.getElem?_eq_some_iff.1 hm).1
  have hsame := same_up (bef (upd A k a) (upd O k ((c : Int) + 1))) (n + 1) n (pushF κ n k) (by omega)
  refine ⟨hq, push_ho (bef_ord _ _) (h.ho.congrA (fun i hi => ⟨upd_o _ _ _ _ (hkk i hi), upd_o _ _ _ _ (hkk i hi)⟩)), fun y => ?_, by simp [h.len], ?_, ?_, ?_, ?_, hom, ?_, ?_, by have := h.cb; omega, by have := h.nb; omega, by rw [hS']; exact .inl h.sp, ?_⟩
  · rw [List.mem_append, h.set, hsame.2]
    constructor
    · rintro (⟨i, hi, e⟩ | e)
      · exact ⟨i, by omega, by rw [pushF, if_pos hi]; exact e⟩
      · simp at e; exact ⟨n, by omega, by rw [pushF, if_neg (by omega)]; exact e.symm⟩
    · rintro ⟨i, hi, e⟩
      unfold pushF at e
      split at e
      · exact .inl ⟨i, by assumption, e⟩
      · exact .inr (by simp [e])
  · rw [List.pairwise_append]
    refine ⟨?_, by simp, fun y hy z hz => ?_⟩
    · refine List.Pairwise.imp_of_mem ?_ h.up
      intro y z hy hz hyz
      rw [upd_o _ _ _ _ (hkn y hy), upd_o _ _ _ _ (hkn z hz)]
      exact hyz
    · simp at hz
      subst hz
      rw [upd_s, upd_o _ _ _ _ (hkn y hy)]
      have := h.oc y hy
      omega
  · intro y hy
    rw [List.mem_append] at hy
    rcases hy with hy | hy
    · rw [upd_o _ _ _ _ (hkn y hy)]
      have := h.oc y hy
      omega
    · simp at hy; subst hy; rw [upd_s]; omega
  · rw [List.pairwise_append]
    refine ⟨?_, by simp, fun y hy z hz => ?_⟩
    · refine List.Pairwise.imp_of_mem ?_ h.ids
      intro y z hy hz hyz
      rw [upd_o _ _ _ _ (hkn y hy), upd_o _ _ _ _ (hkn z hz)]
      exact hyz
    · simp at hz
      subst hz
      rw [upd_s, upd_o _ _ _ _ (hkn y hy)]
      have := List.find?_eq_none.1 hf y hy
      simpa using this
  · intro y hy
    rw [List.mem_append] at hy
    rcases hy with hy | hy
    · rw [upd_o _ _ _ _ (hkn y hy)]; exact h.iw y hy
    · simp at hy; subst hy; rw [upd_s]; exact hx
  · intro y
    rw [List.find?_append, find_congr (I := I) (fun z hz => upd_o _ _ _ _ (hkn z hz))]
    by_cases hyx : y = x
    · subst hyx
      rw [hf, atKey_put_same h.im (by trivial)]
      simp [upd_s]
    · rw [atKey_put_other (by simpa using hyx), h.key y]
      have : ([k].find? fun z => upd I k x z == y) = none := by simp [upd_s]; exact fun e => hyx e.symm
      rw [this]
      cases L.find? (fun k => I k == y) <;> rfl
  · exact h.im.put _ _
  · rw [hS']
    rintro (h1 | h1)
    · exact h.sm h1
    · omega
set_option maxHeartbeats 2000000 in
theorem Add_c {F : Nat → Prop} {w : World} {p c : Nat} {l : List (Int × Int)} (h : Ag F w p c l) (hc : c ≤ 10000000) (a x : Int) (hx : Wf x) :
    Calls Try.prog 9 #[.pointer (some ⟨p, 0, none⟩), .int .i64 a, .int .i64 x] w fun e w' => e = .returned (.int .i64 (addE l a x)) ∧ Aft F w p c w' (addL l a x) := by
  obtain ⟨S, m, n, κ, A, O, I, L, cnt, D, hB, hSF, hFm, hFb, hl⟩ := h
  by_cases ha : okAt a = true
  · have ha' : Hid (decide (0 ≤ a ∧ a ≤ 1099511627776) = true) := ha
    obtain ⟨sl, hd⟩ := hB.hdp
    have c1 : w.cell? ⟨p, 1, none⟩ = some (.map (some m)) := by rw [cell_b hd]; rfl
    have c2 : w.cell? ⟨p, 2, none⟩ = some (.int .i64 (c : Int)) := by rw [cell_b hd]; rfl
    have f2 : w.frozen? ⟨p, 2, none⟩ = false := froz_b hd
    have hplt : p < w.heap.size := (Array.getElem?_eq_some_iff.1 hd).1
    have hcI : (c : Int) ≤ 10000000 := by omega
    cases hf : L.find? (fun k => I k == x) with
    | some k =>
      have hh : hasId l x = true := by rw [hl, any_find, hf]; rfl
      have hr := look_some hB.map hx (k := k) (by rw [hB.key x, hf])
      have e1 : Hid (addE l a x = 8) := by unfold addE; rw [if_pos ha, if_pos hh]; exact rfl
      have e2 : addL l a x = l := by unfold addL; simp [ha, hh]
      have hA : Aft F w p c w (addL l a x) := by rw [e2]; exact Aft.same ⟨S, m, n, κ, A, O, I, L, cnt, D, hB, hSF, hFm, hFb, hl⟩
      go_enter Try.func9, Try.ntmps9
      go_wp2_with fail
      refine (right_c p a w).mono ?_
      rintro e w1 ⟨rfl, he⟩
      obtain rfl := he.symm
      rw [ha'.out]
      go_wp2
      go_ret
      exact ⟨by rw [e1.out]; rfl, hA⟩
    | none =>
      have hh : hasId l x = false := by rw [hl, any_find, hf]; rfl
      have hr := look_none hB.map hx (by rw [hB.key x, hf])
      have e1 : Hid (addE l a x = 0) := by unfold addE; rw [if_pos ha, hh]; exact rfl
      have e2 : Hid (addL l a x = l ++ [(a, x)]) := by exact if_pos (by simp [ha, hh])
      obtain ⟨es, cl, hm⟩ := hB.heapm
      have hmp : m ≠ p := fun e => by rw [e, hd] at hm; simp at hm
      have hom : OM (w.setCell ⟨p, 2, none⟩ (.int .i64 ((c : Int) + 1))) m cnt D := owns_map hB.map (sc_ne hmp)
      have hcb := hB.cb
      go_enter Try.func9, Try.ntmps9
      go_wp2_with fail
      refine (right_c p a w).mono ?_
      rintro e w1 ⟨rfl, he⟩
      obtain rfl := he.symm
      rw [ha'.out]
      go_wp2_with (first
        | (at_mapUpdate; refine wpList_mapUpdate_own _ rfl _ _ _ 49 rfl 3 54 law3 u49 ptrR m cnt D rfl (hom.alloc _) (by unfold maxLen; omega) _ _ _ rfl rfl (key3 hx) _ [] rfl ?_; intro w2 hom2 hg2)
        | fail)
      obtain ⟨k, hk⟩ : ∃ k, k = w.heap.size := ⟨_, rfl⟩
      have hkk : ∀ i, i < n → κ i ≠ k := fun i hi => by
        have := (Array.getElem?_eq_some_iff.1 (hB.hq.it i hi)).1
        omega
      have hml : m < w.heap.size := (Array.getElem?_eq_some_iff.1 hm).1
      have hs2 := hg2.size
      simp only [World.size_alloc, sc_size] at hs2
      have hcc : ((c : Int) + 1) = ((c + 1 : Nat) : Int) := by omega
      have hkeep : ∀ b, b < w.heap.size → b ≠ p → b ≠ m → w2.heap[b]? = w.heap[b]? := fun b hb hbp hbm => by
        rw [hg2.block b (by simp only [World.size_alloc, sc_size]; omega) (by simpa using hbm), al_lt' (by simp only [sc_size]; exact hb), sc_ne hbp]
      have hq2 : Hq S w2 p n (.map (some m)) (.int .i64 ((c + 1 : Nat) : Int)) κ A O I := by
        refine hB.hq.turn (fun sl' hsl => ?_) (fun b hb hbp hbs => hkeep b hb hbp (fun e => hB.sm (e ▸ hbs)))
        rw [hg2.block p (by simp only [World.size_alloc, sc_size]; omega) (by simpa using hmp.symm), al_lt' (by simp only [sc_size]; exact hplt), sc_at hsl, ← hcc]
        rfl
      have hk2 : w2.heap[k]? = some (.cells #[.int .i64 (upd A k a k), .int .i64 (upd O k ((c : Int) + 1) k), .int .i64 (upd I k x k), .int .i64 0] 56 (0, 0)) := by
        rw [upd_s, upd_s, upd_s, hg2.block k (by simp only [World.size_alloc, sc_size]; omega) (by simp; omega), hk]
        have := heap_alloc_new (w.setCell ⟨p, 2, none⟩ (.int .i64 ((c : Int) + 1))) (.cells #[.int .i64 a, .int .i64 ((c : Int) + 1), .int .i64 x, .int .i64 0] 56)
        rw [sc_size] at this
        exact this
      have hq3 : Hq (fun b => S b ∨ w.heap.size ≤ b) w2 p n (.map (some m)) (.int .i64 ((c + 1 : Nat) : Int)) κ (upd A k a) (upd O k ((c : Int) + 1)) (upd I k x) :=
        (hq2.weak (fun b hb => .inl hb)).congrA (fun i hi => ⟨upd_o _ _ _ _ (hkk i hi), upd_o _ _ _ _ (hkk i hi), upd_o _ _ _ _ (hkk i hi)⟩)
      have hnb := hB.nb
      have hP := Push_h hq3 (by omega) k 0 hk2 hkk (.inl hB.sp) (.inr (by omega))
      rw [hk] at hP
      refine hP.mono ?_
      rw [← hk]
      rintro e w4 ⟨rfl, h4, hf4⟩
      have h4' := h4.weak (S' := fun b => S b ∨ w.heap.size ≤ b) (fun b hb => by rcases hb with (hb | hb) | hb; exact .inl hb; exact .inr (by omega); exact .inr (by omega))
      have hm4 : w4.heap[m]? = w2.heap[m]? := hf4.same m (by omega) (fun hh => by rcases hh with hh | hh; exact hB.sm hh; omega)
      have hR := hB.add a x hx hf w4 k hk _ rfl h4' (by rw [hk]; exact owns_map hom2 hm4)
      obtain ⟨z, hz⟩ : ∃ z, Hid (z = w4.heap.size) := ⟨_, rfl⟩
      have hzs : w2.heap.size ≤ z := by rw [hz.out]; exact hf4.size
      go_wp2
      go_ret
      refine ⟨by rw [e1.out]; rfl, fun b => F b ∨ (w.heap.size ≤ b ∧ b < z), c + 1, ?_, by omega, ⟨Nat.le_trans (by omega) hf4.size, fun b hb hbF => ?_, Ro.trans (b := w2) ⟨hg2.os, hg2.tape, hg2.output⟩ hf4.ro⟩, fun b hb => hb.imp id (fun h => h.1)⟩
      · have hz' := hz.out
        refine ⟨_, m, _, _, _, _, _, _, _, _, hR.bound, fun b hb => ?_, .inl hFm, fun b hb => ?_, ?_⟩
        · rcases hb with ⟨hb | hb, hb2⟩
          · exact .inl (hSF b hb)
          · exact .inr ⟨by omega, by omega⟩
        · rcases hb with hb | hb
          · have := hFb b hb
            omega
          · omega
        · rw [e2.out, hl, List.map_append]
          congr 1
          · refine List.map_congr_left (fun y hy => ?_)
            obtain ⟨i, hi, rfl⟩ := (hB.set y).1 hy
            rw [upd_o _ _ _ _ (hkk i hi), upd_o _ _ _ _ (hkk i hi)]
          · simp [upd_s]
      · rw [hf4.same b (by omega) (fun hh => by rcases hh with hh | hh; exact hbF (hSF b hh); omega)]
        exact hkeep b hb (fun e => hbF (e ▸ hSF p hB.sp)) (fun e => hbF (e ▸ hFm))
  · have ha' : Hid (decide (0 ≤ a ∧ a ≤ 1099511627776) = false) := by rw [Bool.not_eq_true] at ha; exact ha
    have e1 : Hid (addE l a x = 1) := if_neg ha
    have e2 : addL l a x = l := by unfold addL; simp [ha]
    have hA : Aft F w p c w (addL l a x) := by rw [e2]; exact Aft.same ⟨S, m, n, κ, A, O, I, L, cnt, D, hB, hSF, hFm, hFb, hl⟩
    go_enter Try.func9, Try.ntmps9
    go_wp2_with fail
    refine (right_c p a w).mono ?_
    rintro e w1 ⟨rfl, he⟩
    obtain rfl := he.symm
    rw [ha'.out]
    go_wp2
    go_ret
    exact ⟨by rw [e1.out]; rfl, hA⟩
end Go.Proofs.Ytlaagbnclkhbjaa
