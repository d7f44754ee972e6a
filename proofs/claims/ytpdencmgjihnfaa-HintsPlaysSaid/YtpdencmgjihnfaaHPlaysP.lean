/- Whatever is offered, taken, dropped and forgotten: the document's hints and these tell the same. -/
import Derived.Test.YtpdencmgjihnfaaHRef3
import Derived.Test.YtpdencmgjihnfaaHOps
namespace Go.Proofs.Ytpdencmgjihnfaa

theorem offAll_snoc (own : C4) (times s t : Int) (c : C4) : ∀ (l wl : List C4) (m : QM), offAll own times s t (l ++ [c]) wl m =
    ((offAll own times s t l wl m).1 ++ [(offE own (offAll own times s t l wl m).2.1 (offAll own times s t l wl m).2.2 times s t c).1],
     (if (offE own (offAll own times s t l wl m).2.1 (offAll own times s t l wl m).2.2 times s t c).1 = 0 then (offAll own times s t l wl m).2.1 ++ [c] else (offAll own times s t l wl m).2.1),
     (offE own (offAll own times s t l wl m).2.1 (offAll own times s t l wl m).2.2 times s t c).2)
  | [], wl, m => rfl
  | x :: r, wl, m => by
    simp only [List.cons_append, offAll]
    rw [offAll_snoc own times s t c r]
    rfl
theorem offAll_len (own : C4) (times s t : Int) : ∀ (l wl : List C4) (m : QM), (offAll own times s t l wl m).1.length = l.length
  | [], _, _ => rfl
  | x :: r, wl, m => by
    simp only [offAll, List.length_cons]
    rw [offAll_len own times s t r]
theorem offAll_take (own : C4) (times s t : Int) (l : List C4) : ∀ (j : Nat) (wl : List C4) (m : QM), (offAll own times s t (l.take j) wl m).1 = (offAll own times s t l wl m).1.take j := by
  induction l with
  | nil => intro j wl m; simp [offAll]
  | cons x r ih =>
    intro j wl m
    cases j with
    | zero => simp [offAll]
    | succ j =>
      simp only [List.take_succ_cons, offAll]
      rw [ih]

theorem qtake_qok {times : Int} {m : QM} {s t : Int} (h : QOk times m) : QOk times (qtake m times s t).2 := qtake_ok h
theorem offE_ok {own : C4} {wl : List C4} {m : QM} {times s t : Int} {c : C4} (h : QOk times m) : QOk times (offE own wl m times s t c).2 := by
  unfold offE
  split
  · exact h
  split
  · exact h
  split
  · exact h
  split
  · exact h
  split
  · exact h
  exact qtake_ok h
/-- One offer: the same answer, and both go on alike. -/
theorem offE_ref {own : C4} {wl : List C4} {m : QM} {T : TL} {times s t : Int} {c : C4} (h : QOk times m) (hp : PlOk m T) (hl : wl.length ≤ 16) :
    refE own wl T times s t c = (offE own wl m times s t c).1 ∧ ((offE own wl m times s t c).1 = 0 → PlOk (offE own wl m times s t c).2 (T ++ [(s, t / 32)])) ∧ ((offE own wl m times s t c).1 ≠ 0 → PlOk (offE own wl m times s t c).2 T) := by
  unfold refE offE
  split
  · exact ⟨rfl, fun h => absurd h (by simp), fun _ => hp⟩
  split
  · exact ⟨rfl, fun h => absurd h (by simp), fun _ => hp⟩
  split
  · exact ⟨rfl, fun h => absurd h (by simp), fun _ => hp⟩
  split
  · exact ⟨rfl, fun h => absurd h (by simp), fun _ => hp⟩
  by_cases h16 : wl.length = 16
  · rw [if_pos h16, if_pos (by omega)]
    exact ⟨rfl, fun h => absurd h (by simp), fun _ => hp⟩
  · rw [if_neg h16, if_neg (by omega)]
    have hc := hp.cnt h.rises
    rw [hc]
    rcases hp.tryL (times := times) s t with h1 | h1
    · refine ⟨h1, fun h0 => hp.take h s t h0, fun h0 => ?_⟩
      rw [qtake_same h0]
      exact hp
    · have := h.len
      omega
/-- Who waits has an identity of his own. -/
theorem offE_nodup {own : C4} {wl : List C4} {m : QM} {times s t : Int} {c : C4} (h0 : (offE own wl m times s t c).1 = 0) (hn : (wl.map (·.1)).Nodup) : ((wl ++ [c]).map (·.1)).Nodup := by
  unfold offE at h0
  split at h0
  · simp at h0
  split at h0
  · simp at h0
  split at h0
  · simp at h0
  split at h0
  · simp at h0
  rename_i hany
  rw [List.map_append, List.map_cons, List.map_nil, List.nodup_append]
  refine ⟨hn, by simp, ?_⟩
  intro a ha b hb he
  simp at hb
  subst hb
  subst he
  obtain ⟨x, hx, hxe⟩ := List.mem_map.1 ha
  apply hany
  exact List.any_eq_true.2 ⟨x, hx, by simpa using hxe⟩

theorem offAll_inv (own : C4) (times s t : Int) : ∀ (l wl : List C4) (m : QM), QOk times m → wl.length ≤ 16 → (wl.map (·.1)).Nodup → QOk times (offAll own times s t l wl m).2.2 ∧ (offAll own times s t l wl m).2.1.length ≤ 16 ∧ ((offAll own times s t l wl m).2.1.map (·.1)).Nodup
  | [], wl, m, h1, h2, h3 => ⟨h1, h2, h3⟩
  | c :: r, wl, m, h1, h2, h3 => by
    refine offAll_inv own times s t r _ _ (offE_ok h1) ?_ ?_
    · split
      · rename_i h0
        have := offE_room h0
        rw [List.length_append, List.length_cons, List.length_nil]
        omega
      · exact h2
    · split
      · rename_i h0
        exact offE_nodup h0 h3
      · exact h3
theorem filter_contains2 (wl : List C4) (c : C4) : wl.filter (fun x => ![c, c].contains x) = wl.filter (fun x => x != c) := by
  congr 1
  funext x
  by_cases h : x = c
  · subst h; simp
  · have h' : (x == c) = false := by simpa using h
    simp [h, h', bne]
theorem filter_len1 {wl : List C4} (hn : (wl.map (·.1)).Nodup) (c : C4) : wl.length ≤ (wl.filter (fun x => x != c)).length + 1 := by
  induction wl with
  | nil => simp
  | cons x r ih =>
    rw [List.map_cons, List.nodup_cons] at hn
    by_cases h : x = c
    · subst h
      have : r.filter (fun y => y != x) = r := by
        rw [List.filter_eq_self]
        intro y hy
        have : y ≠ x := fun e => hn.1 (List.mem_map.2 ⟨y, hy, by rw [e]⟩)
        simpa using this
      rw [List.filter_cons_of_neg (by simp), this, List.length_cons]
      omega
    · rw [List.filter_cons_of_pos (by simpa using h), List.length_cons, List.length_cons]
      have := ih hn.2
      omega
theorem filter_nodup {wl : List C4} (hn : (wl.map (·.1)).Nodup) (p : C4 → Bool) : ((wl.filter p).map (·.1)).Nodup :=
  hn.sublist (List.filter_sublist.map _)
theorem kdel_one {m : QM} (hr : Rises m) (s : Int) : (m.length : Int) - ((qdel m [s]).length : Int) = if kget m s = none then 0 else 1 := by
  show (m.length : Int) - ((kdel m s).length : Int) = _
  by_cases h : kget m s = none
  · rw [kdel_absent h, if_pos h]
    omega
  · have := kdel_length hr h
    rw [if_neg h]
    omega
theorem left_ref {m : QM} {T : TL} {times s t : Int} (hp : PlOk m T) : (if lookL T s t = 0 then times - (timesL T s (t / 32) : Int) else 0) = qleft m times s t := by
  unfold qleft
  rw [hp.look]
  by_cases h0 : (qlook m s t).2 = 0
  · rw [if_pos h0, if_neg (by simpa using h0)]
    have hq : (qlook m s t).1.2 = atN ((kget m s).getD (0, 0)).1 ((kget m s).getD (0, 0)).2 (t / 32) ∧ ((kget m s).getD (0, 0)).1 ≤ t / 32 := by
      unfold qlook at h0 ⊢
      split at h0
      · simp at h0
      · split at h0
        · simp at h0
        · rename_i g1 g2
          rw [if_neg g1, if_neg g2]
          exact ⟨rfl, by omega⟩
    rw [hp.times s _ hq.2, hq.1]
  · rw [if_neg h0, if_pos (by simpa using h0)]
theorem look_nonneg {T : TL} {s t : Int} (h : lookL T s t = 0) : 0 ≤ t := by
  unfold lookL at h
  split at h
  · simp at h
  · omega
end Go.Proofs.Ytpdencmgjihnfaa
