/- Agenda: the fixed fact. -/
import Derived.Test.YtlaagbnclkhbjaaADue
import Derived.Test.YtlaagbnclkhbjaaAAwake
namespace Go.Proofs.Ytlaagbnclkhbjaa
open Go.RowKit Go.Maps
set_option linter.unusedSimpArgs false
set_option linter.unusedVariables false
set_option maxRecDepth 100000
theorem dec_uniq : ∀ {pre pre' post post' : List (Int × Int)} {y y' : Int × Int}, pre ++ y :: post = pre' ++ y' :: post' → (∀ z ∈ pre, y.1 < z.1) → (∀ z ∈ post, y.1 ≤ z.1) → (∀ z ∈ pre', y'.1 < z.1) → (∀ z ∈ post', y'.1 ≤ z.1) → pre = pre' ∧ y = y' ∧ post = post'
  | [], [], _, _, _, _, e, _, _, _, _ => by simp at e; exact ⟨rfl, e.1, e.2⟩
  | [], z :: t, _, _, y, y', e, _, h2, h3, _ => by
    simp at e
    have a := h3 z (by simp)
    have b := h2 y' (by rw [e.2]; simp)
    rw [e.1] at b
    omega
  | z :: t, [], _, _, y, y', e, h1, _, _, h4 => by
    simp at e
    have a := h1 z (by simp)
    have b := h4 y (by rw [← e.2]; simp)
    rw [e.1] at a
    omega
  | z :: t, z' :: t', _, _, _, _, e, h1, h2, h3, h4 => by
    simp at e
    obtain ⟨r1, r2, r3⟩ := dec_uniq e.2 (fun q hq => h1 q (by simp [hq])) h2 (fun q hq => h3 q (by simp [hq])) h4
    exact ⟨by rw [e.1, r1], r2, r3⟩
theorem DueR.det {now : Int} {l : List (Int × Int)} {o : List Int} {r : List (Int × Int)} (h : DueR now l o r) : ∀ {l' : List (Int × Int)} {o' : List Int} {r' : List (Int × Int)}, l' = l → DueR now l' o' r' → o' = o ∧ r' = r := by
  induction h with
  | stop h1 =>
    intro l' o' r' e h'
    cases h' with
    | stop h2 => exact ⟨rfl, e⟩
    | step a b c d =>
      subst e
      have := h1 _ (List.mem_append_right _ List.mem_cons_self)
      omega
  | step h1 h2 h3 h4 ih =>
    intro l' o' r' e h'
    cases h' with
    | stop a =>
      subst e
      have := a _ (List.mem_append_right _ List.mem_cons_self)
      omega
    | step a b c d =>
      obtain ⟨r1, r2, r3⟩ := dec_uniq e b c h2 h3
      subst r1 r2 r3
      obtain ⟨s1, s2⟩ := ih rfl d
      exact ⟨by rw [s1], s2⟩
theorem Fr.below {F : Nat → Prop} {w w' : World} {base : Nat} (h : Fr F w w') (hF : ∀ b, F b → base ≤ b) (hb : base ≤ w.heap.size) : RowKit.Below base w w' :=
  ⟨h.ro.1, h.ro.2.1, h.ro.2.2, h.size, fun b hbb => h.same b (by omega) (fun hh => by have := hF b hh; omega)⟩
theorem Aft.keep {F : Nat → Prop} {w : World} {p c : Nat} {w' : World} {l' : List (Int × Int)} {base : Nat} (h : Aft F w p c w' l') (hF : ∀ b, F b → base ≤ b) (hb : base ≤ w.heap.size) :
    ∃ F' c', Ag F' w' p c' l' ∧ c' ≤ c + 1 ∧ (∀ b, F' b → base ≤ b) ∧ base ≤ w'.heap.size ∧ RowKit.Below base w w' := by
  obtain ⟨F', c', h1, h2, h3, h4⟩ := h
  refine ⟨F', c', h1, h2, fun b hb' => ?_, Nat.le_trans hb h3.size, h3.below hF hb⟩
  rcases h4 b hb' with hh | hh
  · exact hF b hh
  · omega
theorem New_c (w : World) : Calls Try.prog 7 #[] w fun e w' => e = .returned (.pointer (some ⟨w.heap.size + 1, 0, none⟩)) ∧ Ag (fun b => b = w.heap.size ∨ b = w.heap.size + 1) w' (w.heap.size + 1) 0 [] ∧ w'.heap.size = w.heap.size + 2 ∧ RowKit.Below w.heap.size w w' := by
  refine (new_c w).mono ?_
  rintro e w' ⟨rfl, rfl⟩
  have hs : ((w.alloc (.map #[] 0)).alloc (.cells #[.slice none 0 0, .map (some w.heap.size), .int .i64 0] 53)).heap.size = w.heap.size + 2 := by simp [World.size_alloc]
  have hp : ((w.alloc (.map #[] 0)).alloc (.cells #[.slice none 0 0, .map (some w.heap.size), .int .i64 0] 53)).heap[w.heap.size + 1]? = some (.cells #[.slice none 0 0, .map (some w.heap.size), .int .i64 0] 53 (0, 0)) := by
    have := heap_alloc_new (w.alloc (.map #[] 0)) (.cells #[.slice none 0 0, .map (some w.heap.size), .int .i64 0] 53)
    rw [World.size_alloc] at this
    exact this
  refine ⟨rfl, ⟨fun b => b = w.heap.size + 1, w.heap.size, 0, fun _ => 0, fun _ => 0, fun _ => 0, fun _ => 0, [], 0, .map [], ⟨⟨⟨.slice none 0 0, hp, World.ownsRow_nil _ _ _ _, fun r hr => by simp [Value.ownBlock] at hr⟩, fun i hi => by omega, fun i j hi => by omega, fun i hi => by omega⟩, fun i h0 hi => by omega, fun k => by simp, rfl, List.Pairwise.nil, by simp, List.Pairwise.nil, by simp, (World.ownsMap_made w Try.prog 3 ptrR).alloc _, fun x => rfl, isMap_empty, by omega, by omega, rfl, by simp⟩, fun b hb => .inr hb, .inl rfl, fun b hb => by rw [hs]; omega, rfl⟩, hs, ?_⟩
  exact ((Below.refl _ _).alloc (Nat.le_refl _) _).alloc (by rw [World.size_alloc]; omega) _
set_option maxHeartbeats 4000000 in
theorem awake_c (w : World) : Calls Try.prog 8 #[] w fun e w' => e = .returned (.bool true) ∧ RowKit.Below w.heap.size w w' := by
  go_enter Try.func8, Try.ntmps8
  go_wp2_with fail
  refine (New_c w).mono ?_
  rintro e w1 ⟨rfl, h1, hs1, hk1⟩
  obtain ⟨p, hp⟩ : ∃ p, Hid (p = w.heap.size + 1) := ⟨_, rfl⟩
  rw [← hp.out] at h1 ⊢
  have hF1 : ∀ b, (b = w.heap.size ∨ b = p) → w.heap.size ≤ b := fun b hb => by have := hp.out; omega
  go_wp2_with fail
  refine (Add_c h1 (by omega) 9 1 (by decide)).mono ?_
  rintro e w2 ⟨rfl, hA⟩
  obtain ⟨F2, c2, h2, hc2, hF2, hs2, hk2⟩ := hA.keep hF1 (by omega)
  rw [show addE [] 9 1 = 0 from by decide]
  rw [show addL [] 9 1 = [(9, 1)] from by decide] at h2
  clear hA h1
  go_wp2_with fail
  refine (Add_c h2 (by omega) 5 2 (by decide)).mono ?_
  rintro e w3 ⟨rfl, hA⟩
  obtain ⟨F3, c3, h3, hc3, hF3, hs3, hk3⟩ := hA.keep hF2 (by omega)
  rw [show addE [(9, 1)] 5 2 = 0 from by decide]
  rw [show addL [(9, 1)] 5 2 = [(9, 1), (5, 2)] from by decide] at h3
  clear hA h2
  go_wp2_with fail
  refine (Add_c h3 (by omega) 5 3 (by decide)).mono ?_
  rintro e w4 ⟨rfl, hA⟩
  obtain ⟨F4, c4, h4, hc4, hF4, hs4, hk4⟩ := hA.keep hF3 (by omega)
  rw [show addE [(9, 1), (5, 2)] 5 3 = 0 from by decide]
  rw [show addL [(9, 1), (5, 2)] 5 3 = [(9, 1), (5, 2), (5, 3)] from by decide] at h4
  clear hA h3
  go_wp2_with fail
  refine (Add_c h4 (by omega) 5 3 (by decide)).mono ?_
  rintro e w5 ⟨rfl, hA⟩
  obtain ⟨F5, c5, h5, hc5, hF5, hs5, hk5⟩ := hA.keep hF4 (by omega)
  rw [show addE [(9, 1), (5, 2), (5, 3)] 5 3 = 8 from by decide]
  rw [show addL [(9, 1), (5, 2), (5, 3)] 5 3 = [(9, 1), (5, 2), (5, 3)] from by decide] at h5
  clear hA h4
  go_wp2_with fail
  refine (Move_c h5 (by omega) 7 2 (by decide)).mono ?_
  rintro e w6 ⟨rfl, hA⟩
  obtain ⟨F6, c6, h6, hc6, hF6, hs6, hk6⟩ := hA.keep hF5 (by omega)
  rw [show moveE [(9, 1), (5, 2), (5, 3)] 7 2 = 0 from by decide]
  rw [show moveL [(9, 1), (5, 2), (5, 3)] 7 2 = [(9, 1), (5, 3), (7, 2)] from by decide] at h6
  clear hA h5
  go_wp2_with fail
  refine (Next_c h6).mono ?_
  rintro e w7 ⟨⟨a, b, rfl, hab⟩, he⟩
  obtain rfl := he.symm
  obtain ⟨rfl, rfl⟩ : a = 5 ∧ b = true := by
    rcases hab with ⟨h, _⟩ | ⟨⟨⟨y, hy, rfl⟩, h8⟩, rfl⟩
    · simp at h
    · have e1 := h8 (5, 3) (by simp)
      simp at hy
      rcases hy with rfl | rfl | rfl <;> simp at e1 ⊢
  go_wp2_with fail
  refine (Due_c h6 (by omega) 7).mono ?_
  rintro e w8 ⟨v, rfl, out, rest, hd, hrow, h8, hFr8⟩
  have hd' : DueR 7 [(9, 1), (5, 3), (7, 2)] [3, 2] [(9, 1)] :=
    .step (pre := [(9, 1)]) (post := [(7, 2)]) (y := (5, 3)) (by decide) (by simp) (by simp) (.step (pre := [(9, 1)]) (post := []) (y := (7, 2)) (by decide) (by simp) (by simp) (.stop (by simp)))
  obtain ⟨rfl, rfl⟩ := hd'.det rfl hd
  obtain ⟨g, cap, rfl⟩ : ∃ g cap, v = .slice (some ⟨g, 0, none⟩) 2 cap := by
    rcases hrow.2 with ⟨e1, e2⟩ | ⟨g', cap, cur, e1, _⟩
    · simp at e2
    · exact ⟨_, _, e1⟩
  have r0 : w8.cell? ⟨g, 0, none⟩ = some (.int .i64 3) := hrow.cells rfl 0 _ rfl
  have r1 : w8.cell? ⟨g, 1, none⟩ = some (.int .i64 2) := hrow.cells rfl 1 _ rfl
  have hs8 := hFr8.size
  go_wp2_with fail
  refine (Len_a h8).mono ?_
  rintro e w9 ⟨rfl, he⟩
  obtain rfl := he.symm
  go_wp2_with fail
  refine (Drop_c h8 (by omega) 1 (by decide)).mono ?_
  rintro e w10 ⟨rfl, hA⟩
  obtain ⟨F10, c10, h10, hc10, hF10, hs10, hk10⟩ := hA.keep hF6 (by omega)
  rw [show hasId [(9, 1)] 1 = true from by decide]
  rw [show rmId [(9, 1)] 1 = [] from by decide] at h10
  clear hA
  go_wp2_with fail
  refine (Drop_c h10 (by omega) 1 (by decide)).mono ?_
  rintro e w11 ⟨rfl, hA⟩
  obtain ⟨F11, c11, h11, hc11, hF11, hs11, hk11⟩ := hA.keep hF10 (by omega)
  rw [show hasId [] 1 = false from by decide]
  go_wp2
  go_ret
  exact ⟨rfl, ((((((((hk1.trans hk2).trans hk3).trans hk4).trans hk5).trans hk6).trans (hFr8.below hF6 (by omega))).trans hk10).trans hk11)⟩
end Go.Proofs.Ytlaagbnclkhbjaa
