/- Contracts of (*Draws).Some, nil and not nil. -/
import Derived.Test.YtibepkipbmfonaaDrawsN
namespace Go.Proofs.Ytibepkipbmfonaa
open Go.RowKit Go.ChangeMaps

/-- How many are taken: min(max(n, 0), len). -/
def someN (n : Int) (m : Nat) : Nat := min n.toNat m

set_option maxHeartbeats 1000000 in
theorem some_of (v : Value) (n : Int) (A : Option Addr) (m c : Nat) (w : World) (R : Option Addr → Nat → World → Prop) (hl : m ≤ 17592186044416)
    (h : Calls Try.prog 21 #[v, .slice A m c] w fun e w' => ∃ A' c', e = .returned (.slice A' m c') ∧ m ≤ c' ∧ R A' c' w') :
    Calls Try.prog 20 #[v, .int .i64 n, .slice A m c] w fun e w' => ∃ A' c', e = .returned (.slice A' (someN n m) (someN n m)) ∧ R A' c' w' := by
  have H := Lib.hid h
  clear h
  by_cases h1 : n ≤ 0
  · have hk : Hid (someN n m = 0) := by show someN n m = 0; unfold someN; omega
    by_cases h2 : n = 0
    · subst h2
      go_enter Try.func20, Try.ntmps20
      go_wp2_with fail
      refine H.out.mono ?_
      rintro e w1 ⟨A', c', rfl, hc, hR⟩
      have m0 : (0 : Int) ≤ (m : Int) := Int.natCast_nonneg _
      go_wp2_with fail
      go_ret
      exact ⟨A', c', by rw [hk.out]; simp, hR⟩
    · have h3 : ¬ (0 : Int) ≤ n := by omega
      have h4 : n < 0 := by omega
      go_enter Try.func20, Try.ntmps20
      go_wp2_with fail
      refine H.out.mono ?_
      rintro e w1 ⟨A', c', rfl, hc, hR⟩
      have m0 : (0 : Int) ≤ (m : Int) := Int.natCast_nonneg _
      go_wp2_with fail
      go_ret
      exact ⟨A', c', by rw [hk.out]; simp, hR⟩
  · by_cases h2 : n ≤ m
    · obtain ⟨k, rfl⟩ := Int.eq_ofNat_of_zero_le (show 0 ≤ n by omega)
      have hkm : k ≤ m := by omega
      have hk : Hid (someN (k : Int) m = k) := by show someN (k : Int) m = k; unfold someN; simp; omega
      have k0 : ¬ (k : Int) < 0 := by omega
      have k1 : ¬ (m : Int) < (k : Int) := by omega
      have k2 : (0 : Int) ≤ (k : Int) := by omega
      clear h1 h2
      go_enter Try.func20, Try.ntmps20
      go_wp2_with fail
      refine H.out.mono ?_
      rintro e w1 ⟨A', c', rfl, hc, hR⟩
      have hkc : k ≤ c' := by omega
      have hkc' : (k : Int) ≤ (c' : Int) := by omega
      go_wp2_with fail
      go_ret
      exact ⟨A', c', by rw [hk.out]; simp, hR⟩
    · have hk : Hid (someN n m = m) := by show someN n m = m; unfold someN; omega
      have k0 : ¬ n < 0 := by omega
      have k1 : (m : Int) < n := by omega
      have k2 : (0 : Int) ≤ n := by omega
      have k3 : (0 : Int) ≤ (m : Int) := Int.natCast_nonneg _
      clear h1 h2
      go_enter Try.func20, Try.ntmps20
      go_wp2_with fail
      refine H.out.mono ?_
      rintro e w1 ⟨A', c', rfl, hc, hR⟩
      have hkc' : (m : Int) ≤ (c' : Int) := by omega
      go_wp2_with fail
      go_ret
      exact ⟨A', c', by rw [hk.out]; simp, hR⟩
theorem i64s_take {w : World} {A : Option Addr} {xs : List Int} (h : Sl w A (i64s xs)) (k : Nat) : Sl w A (i64s (xs.take k)) := by
  have := h.take k
  simpa [i64s, List.map_take] using this
theorem some_nil (n : Int) (A : Option Addr) (m c : Nat) (xs : List Int) (w : World) (hx : Sl w A (i64s xs)) (hn : xs.length = m) (hl : m ≤ 17592186044416) :
    Calls Try.prog 20 #[.pointer none, .int .i64 n, .slice A m c] w fun e w' => ∃ A', e = .returned (.slice A' (someN n m) (someN n m)) ∧ Sl w' A' (i64s (xs.take (someN n m))) ∧ Turn [] w w' := by
  refine (some_of (.pointer none) n A m c w (fun A' c' w' => Sl w' A' (i64s xs) ∧ Turn [] w w') hl ((mix_nil A m c xs w hx hn hl).mono ?_)).mono ?_
  · rintro e w1 ⟨A', c', rfl, ho, hT⟩
    exact ⟨A', c', rfl, (own_caps ho).1, Sl.of_own ho, hT⟩
  · rintro e w1 ⟨A', c', rfl, hs, hT⟩
    exact ⟨A', rfl, i64s_take hs _, hT⟩
theorem some_c (d : Nat) (s : Int) (n : Int) (A : Option Addr) (m c : Nat) (xs : List Int) (w : World) (hd : Blk w d 56 #[.int .u64 s]) (hx : Sl w A (i64s xs)) (hn : xs.length = m) (hl : m ≤ 17592186044416) :
    Calls Try.prog 20 #[.pointer (some ⟨d, 0, none⟩), .int .i64 n, .slice A m c] w fun e w' => ∃ A', e = .returned (.slice A' (someN n m) (someN n m)) ∧ Sl w' A' (i64s ((mixL s xs).2.take (someN n m))) ∧ (∀ a, A' = some a → w.heap.size ≤ a.block) ∧ Blk w' d 56 #[.int .u64 (mixL s xs).1] ∧ Turn [d] w w' := by
  refine (some_of _ n A m c w (fun A' c' w' => Sl w' A' (i64s (mixL s xs).2) ∧ (∀ a, A' = some a → w.heap.size ≤ a.block) ∧ Blk w' d 56 #[.int .u64 (mixL s xs).1] ∧ Turn [d] w w') hl ((mix_c d s A m c xs w hd hx hn hl).mono ?_)).mono ?_
  · rintro e w1 ⟨A', c', rfl, ho, hb, hT⟩
    exact ⟨A', c', rfl, (own_caps ho).1, Sl.of_own ho, own_base ho, hb, hT⟩
  · rintro e w1 ⟨A', c', rfl, hs, hB, hb, hT⟩
    exact ⟨A', rfl, i64s_take hs _, hB, hb, hT⟩
end Go.Proofs.Ytibepkipbmfonaa
