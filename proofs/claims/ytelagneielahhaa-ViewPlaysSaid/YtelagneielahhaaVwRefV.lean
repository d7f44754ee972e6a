/- The reference's view (layer 20) in memory; Right, Find. -/
import Derived.Test.YtelagneielahhaaVwOrder
import Derived.Test.YtelagneielahhaaVwRefS
import Derived.Test.YtelagneielahhaaVwHear
import Derived.Test.YtelagneielahhaaRowOps
namespace Go.Proofs.Ytelagneielahhaa
open Go.RowKit Go.ChangeMaps Go.MapKept

/-! ### plain laws of lists by key -/
section
variable {α : Type}
theorem split_at (m : List α) {k : Nat} (hk : k < m.length) : m = m.take k ++ m[k] :: m.drop (k + 1) := by
  rw [← List.drop_eq_getElem_cons hk, List.take_append_drop]
theorem rises_lt {m : List (Int × α)} (h : Rises m) {i j : Nat} (hij : i < j) (hj : j < m.length) : m[i].1 < m[j].1 :=
  List.pairwise_iff_getElem.1 h i j (by omega) hj hij
theorem take_lt {m : List (Int × α)} (h : Rises m) {k : Nat} (hk : k < m.length) : ∀ y ∈ m.take k, y.1 < m[k].1 := fun y hy => by
  obtain ⟨j, hj, rfl⟩ := List.getElem_of_mem hy
  rw [List.length_take] at hj
  rw [List.getElem_take]
  exact rises_lt h (by omega) hk
theorem drop_gt {m : List (Int × α)} (h : Rises m) {k : Nat} (hk : k < m.length) : ∀ y ∈ m.drop (k + 1), m[k].1 < y.1 := fun y hy => by
  obtain ⟨j, hj, rfl⟩ := List.getElem_of_mem hy
  rw [List.length_drop] at hj
  rw [List.getElem_drop]
  exact rises_lt h (by omega) (by omega)
theorem kdel_at {m : List (Int × α)} (h : Rises m) {k : Nat} (hk : k < m.length) {id : Int} (e : m[k].1 = id) : kdel m id = m.take k ++ m.drop (k + 1) := by
  have h1 := take_lt h hk
  have h2 := drop_gt h hk
  rw [e] at h1 h2
  unfold kdel
  conv => lhs; rw [split_at m hk]
  rw [List.filter_append, List.filter_cons_of_neg (by simp [e]), List.filter_eq_self.2, List.filter_eq_self.2]
  · intro y hy
    have := h2 y hy
    simp
    omega
  · intro y hy
    have := h1 y hy
    simp
    omega
theorem kins_mid (x : Int × α) : ∀ (a b : List (Int × α)), (∀ y ∈ a, y.1 < x.1) → (∀ y ∈ b, x.1 < y.1) → kins x (a ++ b) = a ++ x :: b
  | [], [], _, _ => rfl
  | [], y :: r, _, hb => by
    have := hb y (by simp)
    show kins x (y :: r) = _
    unfold kins
    rw [if_pos this]
    rfl
  | y :: r, b, ha, hb => by
    have := ha y (by simp)
    show kins x (y :: (r ++ b)) = _
    unfold kins
    rw [if_neg (by omega), kins_mid x r b (fun z hz => ha z (by simp [hz])) hb]
    rfl
theorem kput_old_at {m : List (Int × α)} (h : Rises m) {k : Nat} (hk : k < m.length) {id : Int} (e : m[k].1 = id) (v : α) : kput m id v = m.set k (id, v) := by
  have h1 := take_lt h hk
  have h2 := drop_gt h hk
  rw [e] at h1 h2
  show kins (id, v) (kdel m id) = _
  rw [kdel_at h hk e, kins_mid (id, v) _ _ h1 h2, List.set_eq_take_append_cons_drop, if_pos hk]
/-- How many are ahead of an identity. -/
def atI : List (Int × α) → Int → Nat
  | [], _ => 0
  | y :: r, id => if y.1 < id then atI r id + 1 else 0
theorem atI_le : ∀ (l : List (Int × α)) (id : Int), atI l id ≤ l.length
  | [], _ => Nat.le_refl _
  | y :: r, id => by
    have := atI_le r id
    unfold atI
    split <;> simp
    omega
theorem atI_lt : ∀ {l : List (Int × α)} {id : Int} {k : Nat} (hl : k < l.length), k < atI l id → l[k].1 < id
  | y :: r, id, 0, hl, hk => by
    unfold atI at hk
    split at hk
    · assumption
    · omega
  | y :: r, id, k + 1, hl, hk => by
    unfold atI at hk
    split at hk
    · exact atI_lt (l := r) (by simpa using hl) (by omega)
    · omega
theorem atI_end : ∀ {l : List (Int × α)} {id : Int} (hl : atI l id < l.length), ¬ (l[atI l id]).1 < id
  | y :: r, id, hl => by
    by_cases h : y.1 < id
    · have e : atI (y :: r) id = atI r id + 1 := by simp [atI, h]
      simp only [e, List.getElem_cons_succ]
      exact atI_end (l := r) (by rw [e] at hl; simpa using hl)
    · have e : atI (y :: r) id = 0 := by simp [atI, h]
      simp only [e, List.getElem_cons_zero]
      exact h
theorem kput_new_at {m : List (Int × α)} (hr : Rises m) {id : Int} (v : α) (h : kget m id = none) : kput m id v = m.take (atI m id) ++ (id, v) :: m.drop (atI m id) := by
  have e : kdel m id = m := kdel_absent h
  show kins (id, v) (kdel m id) = _
  rw [e]
  conv => lhs; rw [← List.take_append_drop (atI m id) m]
  refine kins_mid _ _ _ (fun y hy => ?_) (fun y hy => ?_)
  · obtain ⟨j, hj, rfl⟩ := List.getElem_of_mem hy
    have hj' : j < atI m id := by have := hj; rw [List.length_take] at this; omega
    have hj2 : j < m.length := by have := hj; rw [List.length_take] at this; omega
    rw [List.getElem_take]
    exact atI_lt hj2 hj'
  · have hne := kget_none.1 h y (List.mem_of_mem_drop hy)
    obtain ⟨j, hj, rfl⟩ := List.getElem_of_mem hy
    rw [List.length_drop] at hj
    have hle : ¬ (m[atI m id]'(by omega)).1 < id := atI_end (by omega)
    rw [List.getElem_drop] at hne ⊢
    by_cases hj0 : j = 0
    · subst hj0
      simp only [Nat.add_zero] at hne ⊢
      omega
    · have := rises_lt hr (i := atI m id) (j := atI m id + j) (by omega) (by omega)
      omega
/-- Find's answer. -/
def findI (l : List (Int × α)) (id : Int) : Int := ((l.findIdx? (fun x => x.1 == id)).map (fun i => (i : Int))).getD (-1)
theorem findI_found {l : List (Int × α)} {id : Int} {k : Nat} (hk : k < l.length) (h0 : ∀ j, (hj : j < k) → (l[j]'(by omega)).1 ≠ id) (hp : l[k].1 = id) : findI l id = k := by
  have h : l.findIdx? (fun x => x.1 == id) = some k := by
    rw [List.findIdx?_eq_some_iff_getElem]
    exact ⟨hk, by simpa using hp, fun j hj => by simpa using h0 j hj⟩
  simp [findI, h]
theorem findI_none {l : List (Int × α)} {id : Int} (h0 : ∀ j, (hj : j < l.length) → l[j].1 ≠ id) : findI l id = -1 := by
  have h : l.findIdx? (fun x => x.1 == id) = none := by
    rw [List.findIdx?_eq_none_iff]
    intro x hx
    obtain ⟨j, hj, rfl⟩ := List.getElem_of_mem hx
    simpa using h0 j hj
  simp [findI, h]
theorem findI_cases (l : List (Int × α)) (id : Int) : (kget l id = none ∧ findI l id = -1) ∨ ∃ (k : Nat) (hk : k < l.length) (a : α), kget l id = some a ∧ findI l id = k ∧ l[k] = (id, a) := by
  cases h : l.findIdx? (fun x => x.1 == id) with
  | none =>
    left
    refine ⟨kget_none.2 (fun y hy => ?_), by simp [findI, h]⟩
    have := List.findIdx?_eq_none_iff.1 h y hy
    simpa using this
  | some k =>
    right
    obtain ⟨hk, hp, hm⟩ := List.findIdx?_eq_some_iff_getElem.1 h
    refine ⟨k, hk, l[k].2, ?_, by simp [findI, h], ?_⟩
    · unfold kget
      have : l.find? (fun p => p.1 == id) = some l[k] := by
        rw [List.find?_eq_some_iff_getElem]
        exact ⟨hp, k, hk, rfl, fun j hj => by simpa using hm j hj⟩
      rw [this]
      rfl
    · have : l[k].1 = id := by simpa using hp
      rw [← this]
end

/-- The reference's view at its block. -/
structure RVIs (w : World) (r : Nat) (own : C4) (A : Option Addr) (n c : Nat) (m : VM) : Prop where
  blk : Blk w r 63 #[.int .i64 own.1, .int .i64 own.2.1, .int .i64 own.2.2.1, .int .i64 own.2.2.2, .slice A n c]
  row : ∃ base, r < base ∧ w.ownsRow base 94 8 (.slice A n c) n (ecs (m.map (·.2)))
theorem RVIs.len {w : World} {r : Nat} {own : C4} {A : Option Addr} {n c : Nat} {m : VM} (h : RVIs w r own A n c m) : m.length = n := by
  obtain ⟨base, -, ho⟩ := h.row
  have := ho.1
  rw [ecs_len, List.length_map] at this
  omega
theorem RVIs.turn {w w' : World} {r : Nat} {own : C4} {A : Option Addr} {n c : Nat} {m : VM} (h : RVIs w r own A n c m) {S : List Nat} (hT : Turn S w w') (h1 : r ∉ S) (h2 : ∀ i ∈ blks A, i ∉ S) : RVIs w' r own A n c m := by
  obtain ⟨base, h3, h4⟩ := h.row
  exact ⟨hT.blk h.blk h1, base, h3, own_turnA h4 hT h2⟩
theorem RVIs.turn0 {w w' : World} {r : Nat} {own : C4} {A : Option Addr} {n c : Nat} {m : VM} (h : RVIs w r own A n c m) (hT : Turn [] w w') : RVIs w' r own A n c m := h.turn hT (by simp) (by simp)
theorem RVIs.blks_ok {w : World} {r : Nat} {own : C4} {A : Option Addr} {n c : Nat} {m : VM} (h : RVIs w r own A n c m) : ∀ i ∈ blks A, i < w.heap.size ∧ i ≠ r := fun i hi => by
  obtain ⟨base, h3, h4⟩ := h.row
  have := own_ltA h4 i hi
  omega
theorem RVIs.sl {w : World} {r : Nat} {own : C4} {A : Option Addr} {n c : Nat} {m : VM} (h : RVIs w r own A n c m) : Sl w A (ecs (m.map (·.2))) := by
  obtain ⟨base, h3, h4⟩ := h.row
  exact Sl.of_own h4
theorem RVIs.cells {w : World} {r : Nat} {own : C4} {A : Option Addr} {n c : Nat} {m : VM} (h : RVIs w r own A n c m) : w.cell? ⟨r, 0, none⟩ = some (.int .i64 own.1) ∧ w.cell? ⟨r, 1, none⟩ = some (.int .i64 own.2.1) ∧ w.cell? ⟨r, 2, none⟩ = some (.int .i64 own.2.2.1) ∧ w.cell? ⟨r, 3, none⟩ = some (.int .i64 own.2.2.2) ∧ w.cell? ⟨r, 4, none⟩ = some (.slice A n c) ∧ r < w.heap.size :=
  ⟨h.blk.cell 0, h.blk.cell 1, h.blk.cell 2, h.blk.cell 3, h.blk.cell 4, h.blk.lt⟩
set_option maxRecDepth 100000 in
set_option maxHeartbeats 1000000 in
theorem rRight5_c (a b c d : Int) (w : World) :
    Calls Try.prog 26 #[.agg #[.int .i64 a, .int .i64 b, .int .i64 c, .int .i64 d]] w fun e w' => e = .returned (.bool (decide (Right (a, b, c, d)))) ∧ Turn [] w w' := by
  have hR : Hid (decide (Right (a, b, c, d)) = (decide (0 < a) && (decide (a < 65536) && (decide (0 ≤ b) && (decide (b < 256) && (decide (0 ≤ c) && (decide (c ≤ 1073741824) && (decide (0 < d) && decide (d < 65536)))))))) ) := by
    show _ = _
    unfold Right
    simp only [← Bool.decide_and]
    apply decide_eq_decide.2
    constructor
    · intro h
      omega
    · intro h
      omega
  go_enter Try.func26, Try.ntmps26
  go_wp2_with fail
  all_goals
    go_ret
    exact ⟨by rw [hR.out]; first | (simp; done) | (simp; intros; omega) | (simp [*]; done), (Turn.refl _ _).alloc _⟩
set_option maxRecDepth 100000 in
set_option maxHeartbeats 1000000 in
theorem rFind_c {w : World} {r : Nat} {own : C4} {A : Option Addr} {n c : Nat} {m : VM} (h : RVIs w r own A n c m) (hok : ∀ p ∈ m, p.2.c.1 = p.1) (hl : n ≤ 1000000) (id : Int) :
    Calls Try.prog 47 #[.pointer (some ⟨r, 0, none⟩), .int .i64 id] w fun e w' => e = .returned (.int .i64 (findI m id)) ∧ w = w' := by
  have HN := Lib.hid h.len
  have HX := Lib.hid h.sl
  have HK := Lib.hid hok
  obtain ⟨-, -, -, -, c4, rl⟩ := h.cells
  clear h hok
  go_enter Try.func47, Try.ntmps47
  go_wp2_with fail
  go_loop [5] (fun i => ∃ k : Nat, k ≤ n ∧ i = .int .i64 k ∧ Hid (∀ j, (hj : j < k) → (hl : j < m.length) → (m[j]'hl).1 ≠ id)) (fun i => n - (intOf i).toNat)
  case atStart => exact ⟨0, Nat.zero_le _, rfl, Lib.hid (fun j hj => absurd hj (by omega))⟩
  case round =>
    obtain ⟨k, hk, rfl, ht⟩ := hrel
    have i0 : (0 : Int) ≤ (k : Int) := Int.natCast_nonneg _
    by_cases hlt : k < n
    · have kx : k < m.length := by rw [HN.out]; exact hlt
      have i1 : (k : Int) < (n : Int) := by omega
      obtain ⟨b1, o1, rfl, l1, X1⟩ := ecs_at HX.out (k := k) (by simpa using kx)
      have y0 := X1.1
      have hg : (m.map (·.2))[k]'(by simpa using kx) = m[k].2 := by simp
      rw [hg, HK.out _ (List.getElem_mem kx)] at y0
      clear X1 hg
      by_cases he : m[k].1 = id
      · have hv : Hid (findI m id = k) := findI_found kx (fun j hj => ht.out j hj (by omega)) he
        have he' : (m[k].1 == id) = true := by simpa using he
        clear he
        generalize m[k].1 = x at *
        go_wp2_with fail
        go_ret
        exact ⟨by rw [hv.out]; simp, rfl⟩
      · have hnx : Hid (∀ j, (hj : j < k + 1) → (hl : j < m.length) → (m[j]'hl).1 ≠ id) := fun j hj hl => by
          by_cases h : j = k
          · subst h; exact he
          · exact ht.out j (by omega) hl
        have he' : (m[k].1 == id) = false := by simpa using he
        clear he
        generalize m[k].1 = x at *
        go_wp2_with fail
        go_round
        case rel => exact ⟨k + 1, by omega, by go_num, hnx⟩
        case measure => simp [intOf]; omega
    · have hv : Hid (findI m id = -1) := findI_none (fun j hj => ht.out j (by have := HN.out; omega) hj)
      have i1 : ¬ (k : Int) < (n : Int) := by omega
      go_wp2_with fail
      go_ret
      exact ⟨by rw [hv.out]; simp, rfl⟩
end Go.Proofs.Ytelagneielahhaa
