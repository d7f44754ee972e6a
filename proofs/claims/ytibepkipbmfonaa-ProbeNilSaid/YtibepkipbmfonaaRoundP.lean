/- Plain lemmas: lists told once, and rounds that are permutations. -/
import Derived.Test.YtibepkipbmfonaaKit
namespace Go.Proofs.Ytibepkipbmfonaa

theorem snoc_ind {α : Type} {p : List α → Prop} (h0 : p []) (hs : ∀ l x, p l → p (l ++ [x])) (l : List α) : p l := by
  have h : ∀ l : List α, p l.reverse := by
    intro l
    induction l with
    | nil => exact h0
    | cons x r ih => rw [List.reverse_cons]; exact hs _ _ ih
  have := h l.reverse
  rwa [List.reverse_reverse] at this

/-- Each element as it stands first. -/
def onceStep (acc : List Int) (x : Int) : List Int := if x ∈ acc then acc else acc ++ [x]
def onceL (l : List Int) : List Int := l.foldl onceStep []
theorem onceL_snoc (l : List Int) (x : Int) : onceL (l ++ [x]) = if x ∈ onceL l then onceL l else onceL l ++ [x] := by
  unfold onceL
  rw [List.foldl_append]
  rfl
theorem onceL_nodup (l : List Int) : (onceL l).Nodup := by
  refine snoc_ind (p := fun l => (onceL l).Nodup) (by simp [onceL]) (fun l x ih => ?_) l
  · rw [onceL_snoc]
    split
    · exact ih
    · rename_i h
      rw [List.nodup_append]
      refine ⟨ih, by simp, ?_⟩
      intro a ha b hb
      simp at hb
      subst hb
      rintro rfl
      exact h ha
theorem mem_onceL {x : Int} (l : List Int) : x ∈ onceL l ↔ x ∈ l := by
  refine snoc_ind (p := fun l => ∀ x, x ∈ onceL l ↔ x ∈ l) (by simp [onceL]) (fun l y ih x => ?_) l x
  rw [onceL_snoc]
  split
  · rename_i h
    rw [ih] at h ⊢
    simp
    rintro rfl
    exact h
  · simp [ih]
theorem onceL_length_le (l : List Int) : (onceL l).length ≤ l.length := by
  refine snoc_ind (p := fun l => (onceL l).length ≤ l.length) (by simp [onceL]) (fun l y ih => ?_) l
  rw [onceL_snoc]
  split <;> simp <;> omega

/-- T is a beginning of at most n, and then rounds, each a permutation of ids. -/
def Rounded (ids T : List Int) : Prop := ∃ (p : List Int) (πs : List (List Int)), T = p ++ πs.flatten ∧ p.length ≤ ids.length ∧ ∀ π ∈ πs, π.Perm ids

theorem Rounded.more {ids T π : List Int} (h : Rounded ids T) (hp : π.Perm ids) : Rounded ids (T ++ π) := by
  obtain ⟨p, πs, rfl, h1, h2⟩ := h
  refine ⟨p, πs ++ [π], by simp, h1, fun q hq => ?_⟩
  rcases List.mem_append.1 hq with hq | hq
  · exact h2 q hq
  · simp at hq
    subst hq
    exact hp

theorem flatten_perm_length {ids : List Int} : ∀ {πs : List (List Int)}, (∀ π ∈ πs, π.Perm ids) → πs.flatten.length = πs.length * ids.length
  | [], _ => by simp
  | π :: r, h => by
    have h1 := (h π (by simp)).length_eq
    have h2 := flatten_perm_length (πs := r) (fun q hq => h q (by simp [hq]))
    simp only [List.flatten_cons, List.length_append, List.length_cons, h1, h2, Nat.add_mul, Nat.one_mul]
    omega

/-- The m-th round lies whole in the flattened list. -/
theorem mem_round {ids : List Int} : ∀ {πs : List (List Int)} (m : Nat), m < πs.length → (∀ π ∈ πs, π.Perm ids) → ∀ x ∈ ids, ∃ j, m * ids.length ≤ j ∧ j < (m + 1) * ids.length ∧ πs.flatten[j]? = some x
  | [], m, hm, _, x, hx => by simp at hm
  | π :: r, 0, _, h, x, hx => by
    have hp := h π (by simp)
    have hx' : x ∈ π := hp.mem_iff.2 hx
    obtain ⟨j, hj, he⟩ := List.getElem_of_mem hx'
    refine ⟨j, by omega, by rw [← hp.length_eq]; omega, ?_⟩
    rw [List.flatten_cons, List.getElem?_append_left hj, List.getElem?_eq_getElem hj, he]
  | π :: r, m + 1, hm, h, x, hx => by
    obtain ⟨j, h1, h2, h3⟩ := mem_round (πs := r) m (by simpa using hm) (fun q hq => h q (by simp [hq])) x hx
    have hl := (h π (by simp)).length_eq
    refine ⟨j + ids.length, ?_, ?_, ?_⟩
    · rw [Nat.add_mul]; omega
    · rw [Nat.add_mul (m + 1)]; omega
    · rw [List.flatten_cons, List.getElem?_append_right (by omega), show j + ids.length - π.length = j by omega]
      exact h3

/-- In each stretch of 2n that were told each is. -/
theorem Rounded.window {ids T : List Int} (h : Rounded ids T) {i : Nat} (hi : i + 2 * ids.length ≤ T.length) {x : Int} (hx : x ∈ ids) : x ∈ (T.drop i).take (2 * ids.length) := by
  obtain ⟨p, πs, rfl, h1, h2⟩ := h
  have hn : 0 < ids.length := List.length_pos_of_mem hx
  have hfl := flatten_perm_length h2
  have key : ∃ m, i ≤ p.length + m * ids.length ∧ p.length + (m + 1) * ids.length ≤ i + 2 * ids.length := by
    by_cases hip : i ≤ p.length
    · exact ⟨0, by omega, by rw [Nat.zero_add, Nat.one_mul]; omega⟩
    · refine ⟨(i - p.length + ids.length - 1) / ids.length, ?_, ?_⟩
      · have := Nat.lt_div_mul_add (a := i - p.length + ids.length - 1) hn
        omega
      · have := Nat.div_mul_le_self (i - p.length + ids.length - 1) ids.length
        rw [Nat.add_mul, Nat.one_mul]
        omega
  obtain ⟨m, hm1, hm2⟩ := key
  have hml : m < πs.length := by
    rw [List.length_append, hfl] at hi
    have : (m + 1) * ids.length ≤ πs.length * ids.length := by omega
    have := Nat.le_of_mul_le_mul_right this hn
    omega
  obtain ⟨j, hj1, hj2, hj3⟩ := mem_round m hml h2 x hx
  have hT : (p ++ πs.flatten)[p.length + j]? = some x := by
    rw [List.getElem?_append_right (by omega), show p.length + j - p.length = j by omega]
    exact hj3
  have hge : i ≤ p.length + j := by omega
  have : ((p ++ πs.flatten).drop i |>.take (2 * ids.length))[p.length + j - i]? = some x := by
    rw [List.getElem?_take, if_pos (by omega), List.getElem?_drop, show i + (p.length + j - i) = p.length + j by omega]
    exact hT
  exact List.mem_of_getElem? this
end Go.Proofs.Ytibepkipbmfonaa
