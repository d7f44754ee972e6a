/- Contracts of vigilref11: Look, Try. -/
import Derived.Test.YtpdencmgjihnfaaRefQ
namespace Go.Proofs.Ytpdencmgjihnfaa
open Go.RowKit Go.ChangeMaps

def lookL (T : TL) (s t : Int) : Int := if s < 1 ∨ 65535 < s ∨ t < 0 then 10 else if t / 32 < lastL T s then 9 else 0
def tryL (T : TL) (s t times : Int) (cnt : Nat) : Int :=
  if lookL T s t ≠ 0 then lookL T s t else if times ≤ (timesL T s (t / 32) : Int) then 15 else if knownL T s = false ∧ 16 ≤ cnt then 6 else 0
set_option maxRecDepth 100000 in
set_option maxHeartbeats 1000000 in
theorem lookT_c (A : Option Addr) (n c : Nat) (l : TL) (s t : Int) (w : World) (hx : Sl w A (tcs l)) (hn : l.length = n) (hl : n ≤ 1000000) (ht : t ≤ 9223372036854775807) :
    Calls Try.prog 21 #[.slice A n c, .int .i64 s, .int .i64 t] w fun e w' => e = .returned (.int .i64 (lookL l s t)) ∧ w' = w := by
  have KN := Lib.hid (knownT_c A n c l s w hx hn hl)
  unfold lookL
  generalize knownL l s = kb at *
  generalize lastL l s = kp at *
  clear hx hn hl
  by_cases g1 : s < 1
  · rw [if_pos (.inl g1)]
    go_enter Try.func21, Try.ntmps21
    go_wp2_with fail
    go_ret
    exact ⟨by simp, rfl⟩
  by_cases g2 : 65535 < s
  · rw [if_pos (.inr (.inl g2))]
    go_enter Try.func21, Try.ntmps21
    go_wp2_with fail
    go_ret
    exact ⟨by simp, rfl⟩
  by_cases g3 : t < 0
  · rw [if_pos (.inr (.inr g3))]
    go_enter Try.func21, Try.ntmps21
    go_wp2_with fail
    go_ret
    exact ⟨by simp, rfl⟩
  rw [if_neg (by omega)]
  have td : t.tdiv 32 = t / 32 := Int.tdiv_eq_ediv_of_nonneg (by omega)
  by_cases g4 : t / 32 < kp
  · rw [if_pos g4]
    go_enter Try.func21, Try.ntmps21
    go_wp2_with fail
    refine KN.out.mono ?_
    rintro e w1 ⟨rfl, rfl⟩
    go_wp2_with fail
    go_ret
    exact ⟨by simp, rfl⟩
  · rw [if_neg g4]
    go_enter Try.func21, Try.ntmps21
    go_wp2_with fail
    refine KN.out.mono ?_
    rintro e w1 ⟨rfl, rfl⟩
    go_wp2_with fail
    go_ret
    exact ⟨by simp, rfl⟩
set_option maxRecDepth 100000 in
set_option maxHeartbeats 1000000 in
theorem try_c (A : Option Addr) (n c : Nat) (l : TL) (s t times : Int) (cnt : Nat) (w : World) (hx : Sl w A (tcs l)) (hn : l.length = n) (hl : n ≤ 1000000) (ht : t ≤ 9223372036854775807) (hc : cnt ≤ 1000000) :
    Calls Try.prog 29 #[.slice A n c, .int .i64 s, .int .i64 t, .int .i64 times, .int .i64 cnt] w fun e w' => e = .returned (.int .i64 (tryL l s t times cnt)) ∧ Turn [] w w' := by
  have LK := Lib.hid (lookT_c A n c l s t w hx hn hl ht)
  have KN := Lib.hid (fun (wy : World) (hy : Turn [] w wy) => knownT_c A n c l s wy (hx.turn0 hy) hn hl)
  have TI := Lib.hid (fun (wy : World) (hy : Turn [] w wy) => times_c A n c l s (t / 32) wy (hx.turn0 hy) hn hl)
  have hr : lookL l s t = 0 → 0 ≤ t := by
    unfold lookL
    split
    · intro h; omega
    · intro _; omega
  unfold tryL
  generalize lookL l s t = e0 at *
  generalize knownL l s = kb at *
  generalize lastL l s = kp at *
  generalize timesL l s (t / 32) = q at *
  by_cases h0 : e0 = 0
  · subst h0
    have t0 := hr rfl
    have td : t.tdiv 32 = t / 32 := Int.tdiv_eq_ediv_of_nonneg t0
    have wf : (Lit.int .i64 (t / 32)).wf = true := by simp [Lit.wf, IntKind.min, IntKind.max, IntKind.signed, IntKind.bits]; omega
    have T0 := Turn.refl [] w
    rw [if_neg (by simp)]
    clear hr hx hn
    by_cases g1 : times ≤ (q : Int)
    · rw [if_pos g1]
      go_enter Try.func29, Try.ntmps29
      go_wp2_with fail
      refine LK.out.mono ?_
      rintro e w1 ⟨rfl, rfl⟩
      go_wp2_with fail
      refine (TI.out w1 T0).mono ?_
      rintro e w2 ⟨rfl, hT2⟩
      go_wp2_with fail
      go_ret
      exact ⟨by simp, hT2⟩
    · rw [if_neg g1]
      have KN2 := fun wy hy => KN.out wy hy
      by_cases g2 : kb = true
      · subst g2
        rw [if_neg (by simp)]
        go_enter Try.func29, Try.ntmps29
        go_wp2_with fail
        refine LK.out.mono ?_
        rintro e w1 ⟨rfl, rfl⟩
        go_wp2_with fail
        refine (TI.out w1 T0).mono ?_
        rintro e w2 ⟨rfl, hT2⟩
        go_wp2_with fail
        refine (KN2 w2 hT2).mono ?_
        rintro e w3 ⟨rfl, rfl⟩
        go_wp2_with fail
        go_ret
        exact ⟨by simp, hT2⟩
      · have g2' : kb = false := by simpa using g2
        subst g2'
        by_cases g3 : 16 ≤ cnt
        · have g4 : (16 : Int) ≤ (cnt : Int) := by omega
          rw [if_pos ⟨rfl, g3⟩]
          clear g2 
          go_enter Try.func29, Try.ntmps29
          go_wp2_with fail
          refine LK.out.mono ?_
          rintro e w1 ⟨rfl, rfl⟩
          go_wp2_with fail
          refine (TI.out w1 T0).mono ?_
          rintro e w2 ⟨rfl, hT2⟩
          go_wp2_with fail
          refine (KN2 w2 hT2).mono ?_
          rintro e w3 ⟨rfl, rfl⟩
          go_wp2_with fail
          go_ret
          exact ⟨by simp, hT2⟩
        · have g4 : ¬ (16 : Int) ≤ (cnt : Int) := by omega
          rw [if_neg (fun h => g3 h.2)]
          clear g2 g3
          go_enter Try.func29, Try.ntmps29
          go_wp2_with fail
          refine LK.out.mono ?_
          rintro e w1 ⟨rfl, rfl⟩
          go_wp2_with fail
          refine (TI.out w1 T0).mono ?_
          rintro e w2 ⟨rfl, hT2⟩
          go_wp2_with fail
          refine (KN2 w2 hT2).mono ?_
          rintro e w3 ⟨rfl, rfl⟩
          go_wp2_with fail
          go_ret
          exact ⟨by simp, hT2⟩
  · have h0' : (e0 == 0) = false := by simpa using h0
    rw [if_pos h0]
    clear h0 hr hx hn
    go_enter Try.func29, Try.ntmps29
    go_wp2_with fail
    refine LK.out.mono ?_
    rintro e w1 ⟨rfl, rfl⟩
    go_wp2_with fail
    go_ret
    exact ⟨by simp, Turn.refl _ _⟩

/-- The list of takes and the map of a Quotas tell the same. -/
structure PlOk (m : QM) (T : TL) : Prop where
  no : ∀ s, kget m s = none → knownL T s = false
  yes : ∀ s p0 n0, kget m s = some (p0, n0) → (s, p0) ∈ T ∧ (∀ p, (s, p) ∈ T → p ≤ p0) ∧ 0 ≤ p0 ∧ (timesL T s p0 : Int) = n0
theorem PlOk.nil : PlOk [] [] := ⟨fun _ _ => rfl, fun s p0 n0 h => by simp [kget] at h⟩
theorem knownL_iff {T : TL} {s : Int} : knownL T s = true ↔ s ∈ T.map (·.1) := by
  unfold knownL
  rw [List.any_eq_true, List.mem_map]
  constructor
  · rintro ⟨x, hx, he⟩
    exact ⟨x, hx, by simpa using he⟩
  · rintro ⟨x, hx, he⟩
    exact ⟨x, hx, by simpa using he⟩
theorem PlOk.known {m : QM} {T : TL} (h : PlOk m T) (s : Int) : knownL T s = (kget m s).isSome := by
  cases hk : kget m s with
  | none => rw [h.no s hk]; rfl
  | some x => exact knownL_iff.2 (List.mem_map.2 ⟨(s, x.1), (h.yes s x.1 x.2 hk).1, rfl⟩)
theorem PlOk.last {m : QM} {T : TL} (h : PlOk m T) (s : Int) : lastL T s = ((kget m s).getD (0, 0)).1 := by
  cases hk : kget m s with
  | none => exact lastL_zero (h.no s hk)
  | some x =>
    obtain ⟨h1, h2, h3, -⟩ := h.yes s x.1 x.2 hk
    exact lastL_eq h1 h2 h3
theorem timesL_zero {T : TL} {s p : Int} (h : (s, p) ∉ T) : timesL T s p = 0 := by
  unfold timesL
  rw [List.countP_eq_zero]
  intro x hx
  intro hh
  apply h
  have : x = (s, p) := by
    obtain ⟨a, b⟩ := x
    simp at hh
    rw [hh.1, hh.2]
  rw [← this]
  exact hx
theorem PlOk.times {m : QM} {T : TL} (h : PlOk m T) (s P : Int) (hP : ((kget m s).getD (0, 0)).1 ≤ P) : (timesL T s P : Int) = atN ((kget m s).getD (0, 0)).1 ((kget m s).getD (0, 0)).2 P := by
  cases hk : kget m s with
  | none =>
    have hz : timesL T s P = 0 := timesL_zero (fun hm => by
      have h1 := h.no s hk
      have h2 : knownL T s = true := knownL_iff.2 (List.mem_map.2 ⟨(s, P), hm, rfl⟩)
      rw [h1] at h2
      cases h2)
    rw [hz]
    simp [atN]
  | some x =>
    obtain ⟨h1, h2, h3, h4⟩ := h.yes s x.1 x.2 hk
    rw [hk] at hP
    simp only [Option.getD_some] at hP ⊢
    unfold atN
    split
    · rename_i hlt
      rw [timesL_zero (fun hm => by have := h2 P hm; omega)]
      rfl
    · have : P = x.1 := by omega
      rw [this, h4]
theorem PlOk.look {m : QM} {T : TL} (h : PlOk m T) (s t : Int) : lookL T s t = (qlook m s t).2 := by
  unfold lookL qlook
  rw [h.last]
  split
  · rfl
  · split <;> rfl
theorem PlOk.tryL {times : Int} {m : QM} {T : TL} (h : PlOk m T) (s t : Int) : tryL T s t times m.length = (qtake m times s t).1 ∨ 16 < m.length := by
  by_cases hl : 16 < m.length
  · exact .inr hl
  left
  unfold Go.Proofs.Ytpdencmgjihnfaa.tryL qtake
  rw [h.look]
  by_cases h0 : (qlook m s t).2 = 0
  · have hq : (qlook m s t).1.2 = atN ((kget m s).getD (0, 0)).1 ((kget m s).getD (0, 0)).2 (t / 32) ∧ ((kget m s).getD (0, 0)).1 ≤ t / 32 := by
      unfold qlook at h0 ⊢
      split at h0
      · simp at h0
      · split at h0
        · simp at h0
        · rename_i g1 g2
          rw [if_neg g1, if_neg g2]
          exact ⟨rfl, by omega⟩
    rw [h.times s _ hq.2, hq.1, h0, h.known]
    generalize atN _ _ _ = z
    rw [if_neg (by simp), if_neg (show ¬ ((0 : Int) ≠ 0) by simp)]
    by_cases hz : times ≤ z
    · rw [if_pos hz, if_pos hz]
    · rw [if_neg hz, if_neg hz]
      by_cases g : kget m s = none ∧ m.length = 16
      · rw [if_pos g, if_pos ⟨by rw [g.1]; rfl, by omega⟩]
      · rw [if_neg g, if_neg (fun hh => g ⟨by simpa using hh.1, by omega⟩)]
  · rw [if_pos h0, if_pos h0]
theorem PlOk.take {times : Int} {m : QM} {T : TL} (h : PlOk m T) (hq : QOk times m) (s t : Int) (h0 : (qtake m times s t).1 = 0) : PlOk (qtake m times s t).2 (T ++ [(s, t / 32)]) := by
  unfold qtake at h0 ⊢
  split at h0
  · rename_i hb; exact absurd h0 hb
  rename_i hb
  rw [if_neg hb]
  split at h0
  · simp at h0
  rename_i hn
  rw [if_neg hn]
  split at h0
  · simp at h0
  rename_i hf
  rw [if_neg hf]
  have hb' : (qlook m s t).2 = 0 := by simpa using hb
  have hl : 0 ≤ t ∧ ((kget m s).getD (0, 0)).1 ≤ t / 32 ∧ (qlook m s t).1 = (t / 32, atN ((kget m s).getD (0, 0)).1 ((kget m s).getD (0, 0)).2 (t / 32)) := by
    unfold qlook at hb' ⊢
    split at hb'
    · simp at hb'
    split at hb'
    · simp at hb'
    rename_i g1 g2
    rw [if_neg g1, if_neg g2]
    refine ⟨by omega, by omega, ?_⟩
    simp only [atP]
    rw [Int.max_eq_right (by omega)]
  obtain ⟨g0, g1, g2⟩ := hl
  rw [g2]
  have ht := h.times s _ g1
  refine ⟨fun s' hk => ?_, fun s' p0 n0 hk => ?_⟩
  · by_cases hs : s' = s
    · subst hs; rw [kget_kput_same hq.rises] at hk; cases hk
    · rw [kget_kput_other hq.rises hs] at hk
      rw [knownL_snoc, h.no s' hk]
      simpa using fun e => hs e.symm
  · by_cases hs : s' = s
    · subst hs
      rw [kget_kput_same hq.rises] at hk
      cases hk
      refine ⟨by simp, fun p hp => ?_, by omega, ?_⟩
      · rcases List.mem_append.1 hp with hp | hp
        · cases hkm : kget m s' with
          | none =>
            have h1 := h.no s' hkm
            have h2 : knownL T s' = true := knownL_iff.2 (List.mem_map.2 ⟨(s', p), hp, rfl⟩)
            rw [h1] at h2
            cases h2
          | some x =>
            have := (h.yes s' x.1 x.2 hkm).2.1 p hp
            rw [hkm] at g1
            simp only [Option.getD_some] at g1
            omega
        · simp at hp; omega
      · rw [timesL_snoc, if_pos ⟨rfl, rfl⟩, ← ht]
        simp
    · rw [kget_kput_other hq.rises hs] at hk
      obtain ⟨h1, h2, h3, h4⟩ := h.yes s' p0 n0 hk
      refine ⟨List.mem_append_left _ h1, fun p hp => ?_, h3, ?_⟩
      · rcases List.mem_append.1 hp with hp | hp
        · exact h2 p hp
        · simp at hp; exact absurd hp.1 hs
      · rw [timesL_snoc, if_neg (fun hh => hs hh.1.symm)]
        exact h4
theorem PlOk.drop {m : QM} {T : TL} (h : PlOk m T) (hr : Rises m) (s : Int) : PlOk (kdel m s) (T.filter (fun x => x.1 != s)) := by
  refine ⟨fun s' hk => ?_, fun s' p0 n0 hk => ?_⟩
  · by_cases hs : s' = s
    · subst hs
      unfold knownL
      rw [List.any_eq_false]
      intro x hx
      simpa using (List.mem_filter.1 hx).2
    · rw [kget_kdel_other hr hs] at hk
      have := h.no s' hk
      unfold knownL at this ⊢
      rw [List.any_eq_false] at this ⊢
      intro x hx
      exact this x (List.mem_filter.1 hx).1
  · by_cases hs : s' = s
    · subst hs
      rw [kget_kdel_same] at hk
      cases hk
    · rw [kget_kdel_other hr hs] at hk
      obtain ⟨h1, h2, h3, h4⟩ := h.yes s' p0 n0 hk
      refine ⟨List.mem_filter.2 ⟨h1, by simpa using hs⟩, fun p hp => h2 p (List.mem_filter.1 hp).1, h3, ?_⟩
      rw [← h4]
      unfold timesL
      rw [List.countP_filter]
      congr 1
      apply List.countP_congr
      intro x hx
      constructor
      · intro hh
        simp at hh ⊢
        exact ⟨hh.1.1, hh.1.2⟩
      · intro hh
        simp at hh ⊢
        exact ⟨⟨hh.1, hh.2⟩, fun e => hs (hh.1 ▸ e)⟩
theorem PlOk.cnt {m : QM} {T : TL} (h : PlOk m T) (hr : Rises m) : cntL T = m.length := by
  have hp : (dd (T.map (·.1))).Perm (m.map (·.1)) := by
    rw [List.perm_ext_iff_of_nodup (dd_nodup _)]
    · intro a
      rw [dd_mem, ← knownL_iff, h.known]
      constructor
      · intro hs
        cases hk : kget m a with
        | none => rw [hk] at hs; cases hs
        | some x => exact List.mem_map.2 ⟨_, kget_mem hk, rfl⟩
      · intro hm
        obtain ⟨y, hy, rfl⟩ := List.mem_map.1 hm
        rw [kget_of_mem hr (k := y.1) (v := y.2) hy]
        rfl
    · have : (m.map (·.1)).Pairwise (· < ·) := by rw [List.pairwise_map]; exact hr
      exact this.imp (fun hab he => by omega)
  have := hp.length_eq
  rw [List.length_map] at this
  exact this
end Go.Proofs.Ytpdencmgjihnfaa
