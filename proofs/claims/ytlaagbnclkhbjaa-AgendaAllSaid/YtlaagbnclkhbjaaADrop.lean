/- Agenda: Drop, Len, Next. -/
import Derived.Test.YtlaagbnclkhbjaaAMove
namespace Go.Proofs.Ytlaagbnclkhbjaa
open Go.RowKit Go.Maps
set_option linter.unusedSimpArgs false
set_option linter.unusedVariables false
set_option maxRecDepth 100000
theorem filter_none {l : List (Int × Int)} {x : Int} (h : hasId l x = false) : rmId l x = l := by
  unfold rmId hasId at *
  rw [List.filter_eq_self]
  intro y hy
  rw [List.any_eq_false] at h
  simpa using h y hy
set_option maxHeartbeats 2000000 in
theorem Drop_c {F : Nat → Prop} {w : World} {p c : Nat} {l : List (Int × Int)} (h : Ag F w p c l) (hc : c ≤ 10000000) (x : Int) (hx : Wf x) :
    Calls Try.prog 11 #[.pointer (some ⟨p, 0, none⟩), .int .i64 x] w fun e w' => e = .returned (.bool (hasId l x)) ∧ Aft F w p c w' (rmId l x) := by
  obtain ⟨S, m, n, κ, A, O, I, L, cnt, D, hB, hSF, hFm, hFb, hl⟩ := h
  have same : Ag F w p c l := ⟨S, m, n, κ, A, O, I, L, cnt, D, hB, hSF, hFm, hFb, hl⟩
  obtain ⟨sl, hd⟩ := hB.hdp
  have c1 : w.cell? ⟨p, 1, none⟩ = some (.map (some m)) := by rw [cell_b hd]; rfl
  cases hf : L.find? (fun k => I k == x) with
  | none =>
    have hh : hasId l x = false := by rw [hl, any_find, hf]; rfl
    have hr := look_none hB.map hx (by rw [hB.key x, hf])
    have hA : Aft F w p c w (rmId l x) := by rw [filter_none hh]; exact Aft.same same
    have HH : Hid (hasId l x = false) := hh
    clear hh
    go_enter Try.func11, Try.ntmps11
    go_wp2
    go_ret
    exact ⟨by rw [HH.out]; rfl, hA⟩
  | some k =>
    obtain ⟨hkL, hkx⟩ := find_some_key hf
    have hh : Hid (hasId l x = true) := by rw [hl, any_find, hf]; exact rfl
    have hr := look_some hB.map hx (k := k) (by rw [hB.key x, hf])
    obtain ⟨i, hi, hki, hkb, hklt, hkS⟩ := hB.kin hkL
    have k3 : w.cell? ⟨k, 3, none⟩ = some (.int .i64 (i : Int)) := by rw [cell_b hkb]; rfl
    go_enter Try.func11, Try.ntmps11
    go_wp2_with fail
    have hr2 := look_some (w := w.drew) hB.map hx (k := k) (by rw [hB.key x, hf])
    go_still_tail 13, (by kernel_rfl)
    change wpList _ _ _ _ _ w.drew
    obtain ⟨V, hV⟩ : ∃ V, V = w.drew := ⟨_, rfl⟩
    rw [← hV]
    have hVh : V.heap = w.heap := by rw [hV]; rfl
    have hVr : Ro w V := by rw [hV]; exact ⟨rfl, rfl, rfl⟩
    clear hV
    obtain ⟨n', rfl⟩ : ∃ n', n = n' + 1 := ⟨n - 1, by omega⟩
    have hq2 : Hq S V p (n' + 1) (.map (some m)) (.int .i64 (c : Int)) κ A O I := by
      refine hB.hq.turn (fun sl h => by rw [hVh]; exact h) (fun b _ _ _ => by rw [hVh])
    have hnb := hB.nb
    go_wp2_with fail
    refine (Remove_h hq2 (by omega) i hi hB.sp).mono ?_
    rintro e w4 ⟨rfl, h4, hf4, hlast⟩
    have hVs : V.heap.size = w.heap.size := by rw [hVh]
    obtain ⟨es, cl, hm⟩ := hB.heapm
    have hm4 : w4.heap[m]? = w.heap[m]? := by rw [← hVh]; exact hf4.same m (by rw [hVs]; exact (Array.getElem?_eq_some_iff.1 hm).1) hB.sm
    have hom4 : OM w4 m cnt D := owns_map hB.map hm4
    obtain ⟨sl4, hd4, _⟩ := h4.hd
    have d1 : w4.cell? ⟨p, 1, none⟩ = some (.map (some m)) := by rw [cell_b hd4]; rfl
    go_wp2_with (first
      | (at_delete; refine wpList_delete_own _ rfl _ _ 49 3 rfl 54 law3 u49 ptrR m cnt D rfl hom4 _ _ rfl (key3 hx) ?_; intro w5 hom5 ht5)
      | fail)
    go_ret
    have hg5 := ht5.grown
    have hs4 := hf4.size
    have hs5 := hg5.size
    subst hkx
    have hmlt : m < w.heap.size := (Array.getElem?_eq_some_iff.1 hm).1
    have hq5 : Hq S w5 p n' (.map (some m)) (.int .i64 (c : Int)) (remF (bef A O) n' κ i) A O I := by
      refine h4.turn (fun sl h => ?_) (fun b hb hbp hbs => ?_)
      · rw [hg5.block p (Array.getElem?_eq_some_iff.1 h).1 (fun e => by cases e; exact hB.sm hB.sp)]; exact h
      · exact hg5.block b hb (fun e => by cases e; exact hB.sm hbs)
    have hrs := same_rem (bef A O) κ hi
    have hR := hB.less w5 k hkL (remF (bef A O) n' κ i) hrs.1 (hrs.2.trans hki) (rem_ho (bef_ord A O) hi hB.ho) (fun j hj => by rw [← hki, ← hrs.2]; exact hlast j hj) hq5 hom5
    refine ⟨by rw [hh.out]; rfl, F, c, ⟨S, m, n', _, A, O, I, _, cnt, _, hR, hSF, hFm, fun b hb => ?_, ?_⟩, by omega, ⟨by omega, fun b hb hbF => ?_, (hVr.trans hf4.ro).trans (Ro.of_grown hg5)⟩, fun b hb => .inl hb⟩
    · have := hFb b hb
      omega
    · rw [hB.rm hkL, ← hl]
    · rw [hg5.block b (by omega) (fun e => by cases e; exact hbF hFm), hf4.same b (by omega) (fun hh => hbF (hSF b hh)), hVh]
/-- Len, Next. -/
theorem Len_a {F : Nat → Prop} {w : World} {p c : Nat} {l : List (Int × Int)} (h : Ag F w p c l) :
    Calls Try.prog 16 #[.pointer (some ⟨p, 0, none⟩)] w fun e w' => e = .returned (.int .i64 (l.length : Int)) ∧ w' = w := by
  obtain ⟨S, m, n, κ, A, O, I, L, cnt, D, hB, hSF, hFm, hFb, hl⟩ := h
  obtain ⟨a, cp, hc⟩ := hB.hq.cslice
  have hn : l.length = n := by rw [hl, List.length_map]; exact hB.len
  rw [hn]
  clear hl
  go_enter Try.func16, Try.ntmps16
  go_wp2
  go_ret
  exact ⟨rfl, rfl⟩
def IsMin (l : List (Int × Int)) (a : Int) : Prop := (∃ y ∈ l, y.1 = a) ∧ ∀ y ∈ l, a ≤ y.1
theorem AgB.root {S : Nat → Prop} {w : World} {p c m n : Nat} {κ : Nat → Nat} {A O I : Nat → Int} {L : List Nat} {cnt : Nat} {D : DU} (h : AgB S w p c m n κ A O I L cnt D) {k : Nat} (hk : k ∈ L) : bef A O k (κ 0) = false := by
  obtain ⟨i, hi, rfl⟩ := (h.set k).1 hk
  exact ho_root (bef_ord A O) h.ho (by simp [bef, earlier]) i hi
theorem Next_c {F : Nat → Prop} {w : World} {p c : Nat} {l : List (Int × Int)} (h : Ag F w p c l) :
    Calls Try.prog 15 #[.pointer (some ⟨p, 0, none⟩)] w fun e w' => (∃ a b, e = .returned (.tuple #[.int .i64 a, .bool b]) ∧ ((l = [] ∧ a = 0 ∧ b = false) ∨ (IsMin l a ∧ b = true))) ∧ w' = w := by
  have hLen := Len_a h
  obtain ⟨S, m, n, κ, A, O, I, L, cnt, D, hB, hSF, hFm, hFb, hl⟩ := h
  have hn : l.length = n := by rw [hl, List.length_map]; exact hB.len
  rw [hn] at hLen
  by_cases h0 : n = 0
  · subst h0
    have hl0 : Hid (l = []) := List.length_eq_zero_iff.1 hn
    clear hl hn
    go_enter Try.func15, Try.ntmps15
    go_wp2_with fail
    refine hLen.mono ?_
    rintro e w1 ⟨rfl, he⟩
    obtain rfl := he.symm
    go_wp2
    go_ret2
    exact ⟨⟨0, false, rfl, .inl ⟨hl0.out, rfl, rfl⟩⟩, rfl⟩
  · have hmin : Hid (IsMin l (A (κ 0))) := by
      have hk0 : κ 0 ∈ L := (hB.set _).2 ⟨0, by omega, rfl⟩
      constructor
      · exact ⟨(A (κ 0), I (κ 0)), by rw [hl]; exact List.mem_map.2 ⟨κ 0, hk0, rfl⟩, rfl⟩
      · intro y hy
        rw [hl, List.mem_map] at hy
        obtain ⟨k, hk, rfl⟩ := hy
        have := hB.root hk
        simp [bef, earlier] at this
        omega
    obtain ⟨r, cap, hp⟩ := hB.hq.hp (by omega)
    have d0 := hp.cslice
    have d1 := hp.crow (i := 0) (by omega)
    have d2 := hp.cat (i := 0) (by omega)
    have hnz : ¬ ((n : Int) = 0) := by omega
    have hnpos : (0 : Int) < (n : Int) := by omega
    clear hl hn
    go_enter Try.func15, Try.ntmps15
    go_wp2_with fail
    refine hLen.mono ?_
    rintro e w1 ⟨rfl, he⟩
    obtain rfl := he.symm
    go_wp2
    go_ret2
    exact ⟨⟨_, true, rfl, .inr ⟨hmin.out, rfl⟩⟩, rfl⟩
end Go.Proofs.Ytlaagbnclkhbjaa
