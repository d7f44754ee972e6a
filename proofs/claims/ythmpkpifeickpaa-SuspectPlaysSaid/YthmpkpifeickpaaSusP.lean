/- Step by the document and by the maps are alike (plain); the contract of vigilref22.Begin, whole. -/
import Derived.Test.YthmpkpifeickpaaSusRB
namespace Go.Proofs.Ythmpkpifeickpaa
open Go.RowKit Go.ChangeMaps Go.MapKept

theorem answerM_eq (l : List Int) : ∀ m : PM, answerM m l = m.filter (fun x => !(l.contains x.1)) := by
  induction l with
  | nil => intro m; exact (List.filter_eq_self.2 (fun _ _ => by simp)).symm
  | cons a r ih =>
    intro m
    show answerM (kdel m a) r = _
    rw [ih, kdel, List.filter_filter]
    apply List.filter_congr
    intro x _
    by_cases h : x.1 = a <;> simp [h]
theorem pm_unique {m : PM} (h : Rises m) {k : Int} {a b : Int × Bool} (ha : (k, a) ∈ m) (hb : (k, b) ∈ m) : a = b := by
  have h1 := kget_of_mem h ha
  have h2 := kget_of_mem h hb
  rw [h1] at h2
  exact Option.some.inj h2
theorem answer_ids {m : PM} (h : Rises m) (f : Int × Bool → Bool) : answerM m (idsOf f m) = m.filter (fun x => !f x.2) := by
  rw [answerM_eq]
  apply List.filter_congr
  intro x hx
  have : (idsOf f m).contains x.1 = f x.2 := by
    rw [Bool.eq_iff_iff, List.contains_iff_mem, idsOf_mem]
    constructor
    · rintro ⟨a, ha, hf⟩
      rw [pm_unique h (a := x.2) hx ha]
      exact hf
    · intro hf
      exact ⟨x.2, hx, hf⟩
  rw [this]
theorem kput_map {m : PM} (h : Rises m) {k : Int} {v : Int × Bool} (hk : (kget m k).isSome = true) : kput m k v = m.map (fun x => if x.1 = k then (k, v) else x) := by
  induction m with
  | nil => simp [kget] at hk
  | cons y r ih =>
    have hr := (List.pairwise_cons.1 h).2
    have hy := (List.pairwise_cons.1 h).1
    by_cases he : y.1 = k
    · have hf : r.filter (fun p => p.1 != k) = r := by
        apply List.filter_eq_self.2
        intro z hz
        have := hy z hz
        simp
        omega
      have hm : r.map (fun x => if x.1 = k then (k, v) else x) = r := by
        rw [List.map_congr_left (g := id) (fun z hz => by
          have := hy z hz
          rw [if_neg (by omega)]
          rfl)]
        simp
      unfold kput
      rw [List.filter_cons_of_neg (by simpa using he), hf, List.map_cons, if_pos he, hm]
      cases r with
      | nil => rfl
      | cons z s =>
        have := hy z (by simp)
        unfold kins
        rw [if_pos (by simp only; omega)]
    · have hk' : (kget r k).isSome = true := by
        unfold kget at hk ⊢
        rw [List.find?_cons_of_neg (by simpa using he)] at hk
        exact hk
      have hlt : y.1 < k := by
        cases hx : kget r k with
        | none => rw [hx] at hk'; cases hk'
        | some a => exact hy _ (kget_mem hx)
      have e := ih hr hk'
      unfold kput at e ⊢
      rw [List.filter_cons_of_pos (by simpa using he), List.map_cons, if_neg he, ← e]
      show kins _ (y :: _) = _
      rw [kins, if_neg (by simp only; omega)]
theorem stepSet_map {m : PM} (h : Rises m) {k : Int} (hk : (kget m k).isSome = true) : stepSet m k = m.map (fun x => if x.1 = k then (x.1, x.2.1, true) else x) := by
  unfold stepSet
  rw [kput_map h hk]
  apply List.map_congr_left
  intro x hx
  by_cases he : x.1 = k
  · rw [if_pos he, if_pos he]
    have : kget m k = some x.2 := kget_of_mem h (by rw [← he]; exact hx)
    rw [this, he]
    rfl
  · rw [if_neg he, if_neg he]
theorem stepSet_rises {m : PM} (h : Rises m) (k : Int) : Rises (stepSet m k) := rises_kput h
theorem toldM_map (l : List Int) : ∀ {m : PM}, Rises m → (∀ x ∈ l, (kget m x).isSome = true) → toldM m l = m.map (fun x => if x.1 ∈ l then (x.1, x.2.1, true) else x) := by
  induction l with
  | nil => intro m _ _; simp [toldM]
  | cons a r ih =>
    intro m h hs
    show toldM (stepSet m a) r = _
    have ha := hs a (by simp)
    rw [ih (stepSet_rises h a) (fun x hx => kput_some x (hs x (by simp [hx]))), stepSet_map h ha, List.map_map]
    apply List.map_congr_left
    intro x hx
    simp only [Function.comp]
    by_cases h1 : x.1 = a
    · by_cases h2 : a ∈ r <;> simp [h1, h2]
    · by_cases h2 : x.1 ∈ r <;> simp [h1, h2]
theorem stepM_ref {m : PM} (h : Rises m) (t : Int) : stepM m t = (rOut t m, rTold t m, idsOf (failB t) m) := by
  unfold stepM
  rw [answer_ids h]
  have hr : Rises (m.filter (fun x => !failB t x.2)) := List.Pairwise.filter _ h
  have e : toldM (m.filter (fun x => !failB t x.2)) (idsOf (toldB t) (m.filter (fun x => !failB t x.2))) = rOut t m := by
    rw [toldM_map _ hr (fun x hx => by
      obtain ⟨a, ha, _⟩ := idsOf_mem.1 hx
      rw [kget_of_mem hr ha]
      rfl)]
    unfold rOut
    apply List.map_congr_left
    intro x hx
    have : x.1 ∈ idsOf (toldB t) (m.filter (fun x => !failB t x.2)) ↔ toldB t x.2 = true := by
      rw [idsOf_mem]
      constructor
      · rintro ⟨a, ha, hf⟩
        rw [pm_unique hr (a := x.2) hx ha]
        exact hf
      · intro hf
        exact ⟨x.2, hx, hf⟩
    by_cases hb : toldB t x.2 = true
    · rw [if_pos (this.2 hb), if_pos hb]
    · rw [if_neg (fun hm => hb (this.1 hm)), if_neg hb]
  rw [e]
  rfl

set_option maxRecDepth 100000 in
set_option maxHeartbeats 1000000 in
theorem rbegin_c (base : Nat) (A : Option Addr) (n c : Nat) (l : PM) (id t : Int) (w : World) (ho : w.ownsRow base 47 3 (.slice A n c) n (pcs l)) (hbase : base ≤ w.heap.size) (hl : n ≤ 16) :
    Calls Try.prog 11 #[.slice A n c, .int .i64 id, .int .i64 t] w fun e w' => ∃ D nd cd, e = .returned (.tuple #[.slice D nd cd, .int .i64 (beginM l id t).1]) ∧ w'.ownsRow base 47 3 (.slice D nd cd) nd (pcs (beginM l id t).2) ∧ (∀ i ∈ blks D, i ∈ blks A ∨ w.heap.size ≤ i) ∧ Turn [] w w' := by
  have hn : l.length = n := by have := ho.1; rw [pcs_len] at this; omega
  have hcap := (own_caps ho).1
  by_cases hbad : id < 1 ∨ 65535 < id ∨ t < 0 ∨ 1073741824 < t
  · have hv : Hid (beginM l id t = (10, l)) := by show beginM l id t = _; rw [beginM, if_pos hbad]
    generalize beginM l id t = V at *
    have H0 := Lib.hid ho
    clear ho
    by_cases g1 : id < 1
    · clear hbad
      go_enter Try.func11, Try.ntmps11
      go_wp2_with fail
      go_ret2
      exact ⟨A, n, c, by rw [hv.out]; simp, by rw [hv.out]; exact H0.out, fun i hi => .inl hi, Turn.refl _ _⟩
    by_cases g2 : 65535 < id
    · clear hbad
      go_enter Try.func11, Try.ntmps11
      go_wp2_with fail
      go_ret2
      exact ⟨A, n, c, by rw [hv.out]; simp, by rw [hv.out]; exact H0.out, fun i hi => .inl hi, Turn.refl _ _⟩
    by_cases g3 : t < 0
    · clear hbad
      go_enter Try.func11, Try.ntmps11
      go_wp2_with fail
      go_ret2
      exact ⟨A, n, c, by rw [hv.out]; simp, by rw [hv.out]; exact H0.out, fun i hi => .inl hi, Turn.refl _ _⟩
    · have g4 : 1073741824 < t := by omega
      clear hbad
      go_enter Try.func11, Try.ntmps11
      go_wp2_with fail
      go_ret2
      exact ⟨A, n, c, by rw [hv.out]; simp, by rw [hv.out]; exact H0.out, fun i hi => .inl hi, Turn.refl _ _⟩
  have g1 : ¬ id < 1 := by omega
  have g2 : ¬ 65535 < id := by omega
  have g3 : ¬ t < 0 := by omega
  have g4 : ¬ 1073741824 < t := by omega
  have hv : Hid (beginM l id t = if (kget l id).isSome then (8, l) else if l.length = 16 then (6, l) else (0, kput l id (t, false))) := by show beginM l id t = _; rw [beginM, if_neg hbad]
  clear hbad
  have FC := Lib.hid (find_c A n c l id w (Sl.of_own ho) hn (by omega))
  rcases findI_cases l id with ⟨hnone, hf⟩ | ⟨k, hk, a, hsome, hf, _⟩
  · by_cases h16 : l.length = 16
    · have hv1 : Hid (beginM l id t = (6, l)) := by show beginM l id t = _; rw [hv.out, if_neg (by rw [hnone]; simp), if_pos h16]
      generalize beginM l id t = V at *
      have hn16 : n = 16 := by omega
      subst hn16
      rw [hf] at FC
      have H0 := Lib.hid ho
      clear ho hf hv hnone h16 hn
      go_enter Try.func11, Try.ntmps11
      go_wp2_with fail
      refine FC.out.mono ?_
      rintro e w1 ⟨rfl, rfl⟩
      go_wp2_with fail
      go_ret2
      exact ⟨A, 16, c, by rw [hv1.out]; simp, by rw [hv1.out]; exact H0.out, fun i hi => .inl hi, Turn.refl _ _⟩
    · have hv1 : beginM l id t = (0, kput l id (t, false)) := by rw [hv.out, if_neg (by rw [hnone]; simp), if_neg h16]
      rw [hv1]
      refine (rbegin_ok A n c l id t w (Sl.of_own ho) hn hcap (by omega) hnone g1 g2 g3 g4).mono ?_
      rintro e w' ⟨D, nd, cd, rfl, hown, hT⟩
      exact ⟨D, nd, cd, rfl, own_down hown hbase, fun i hi => .inr (own_ltA hown i hi).2, hT⟩
  · have hv1 : Hid (beginM l id t = (8, l)) := by show beginM l id t = _; rw [hv.out, if_pos (by rw [hsome]; rfl)]
    generalize beginM l id t = V at *
    rw [hf] at FC
    have k0 : (0 : Int) ≤ (k : Int) := Int.natCast_nonneg _
    have H0 := Lib.hid ho
    clear ho hf hv hsome hn
    go_enter Try.func11, Try.ntmps11
    go_wp2_with fail
    refine FC.out.mono ?_
    rintro e w1 ⟨rfl, rfl⟩
    go_wp2_with fail
    go_ret2
    exact ⟨A, n, c, by rw [hv1.out]; simp, by rw [hv1.out]; exact H0.out, fun i hi => .inl hi, Turn.refl _ _⟩
end Go.Proofs.Ythmpkpifeickpaa
