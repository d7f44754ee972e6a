/- Contracts of package probe: once, order.take, Round.Next, Left, Rounds. -/
import Derived.Test.YtibepkipbmfonaaMix
import Derived.Test.YtibepkipbmfonaaRoundP
import Derived.WalkMore
namespace Go.Proofs.Ytibepkipbmfonaa
open Go.RowKit Go.ChangeMaps

theorem onceL_take_succ {xs : List Int} {k : Nat} (hk : k < xs.length) : onceL (xs.take (k + 1)) = if xs[k] ∈ onceL (xs.take k) then onceL (xs.take k) else onceL (xs.take k) ++ [xs[k]] := by
  rw [List.take_succ_eq_append_getElem hk, onceL_snoc]

set_option maxRecDepth 100000 in
set_option maxHeartbeats 1000000 in
theorem once_c (A : Option Addr) (n c : Nat) (xs : List Int) (w : World) (hx : Sl w A (i64s xs)) (hn : xs.length = n) (hl : n ≤ 17592186044415) :
    Calls Try.prog 26 #[.slice A n c] w (NewInts w (onceL xs).length (onceL xs)) := by
  have HN := Lib.hid hn
  clear hn
  go_enter Try.func26, Try.ntmps26
  go_wp2_with fail
  go_loopw [3, 8] (fun o i wr => ∃ k : Nat, k ≤ n ∧ i = .int .i64 k ∧ ∃ B m cb, o = .slice B m cb ∧ Hid ((onceL (xs.take k)).length = m) ∧ m ≤ k ∧ wr.ownsRow w.heap.size 3 1 (.slice B m cb) m (i64s (onceL (xs.take k))) ∧ Turn [] w wr) (fun _ i _ => n - (intOf i).toNat)
  case atStart => exact ⟨0, Nat.zero_le _, rfl, none, 0, 0, rfl, Lib.hid rfl, Nat.le_refl _, World.ownsRow_nil _ _ _ _, Turn.refl _ _⟩
  case round =>
    obtain ⟨k, hk, rfl, B, m, cb, rfl, HM, hm, ho, hT⟩ := hrel
    by_cases hlt : k < n
    · have kx : k < xs.length := by rw [HN.out]; exact hlt
      obtain ⟨b1, o1, rfl, l1, c1⟩ := i64s_at (hx.turn0 hT) kx
      have hs := onceL_take_succ kx
      have HS := Lib.hid hs
      clear hs
      have i0 : (0 : Int) ≤ (k : Int) := Int.natCast_nonneg _
      have i1 : (k : Int) < (n : Int) := by omega
      generalize hu : xs[k] = u at *
      clear hu
      generalize onceL (xs.take k) = L at *
      have CC := Lib.hid (contains_c B m cb L u wr (Sl.of_own ho) HM.out (by omega))
      by_cases hin : u ∈ L
      · have hd : Hid (decide (u ∈ L) = true) := by show decide (u ∈ L) = true; simp [hin]
        have HS' : Hid (onceL (xs.take (k + 1)) = L) := by show onceL (xs.take (k + 1)) = L; rw [HS.out, if_pos hin]
        clear hin
        go_wp2_with fail
        refine CC.out.mono ?_
        rw [hd.out]
        rintro e w2 ⟨rfl, rfl⟩
        go_wp2_with fail
        go_roundw
        case rel => exact ⟨k + 1, by omega, by go_num, B, m, cb, rfl, by rw [HS'.out]; exact HM, by omega, by rw [HS'.out]; exact ho, hT⟩
        case measure => simp [intOf]; omega
      · have hd : Hid (decide (u ∈ L) = false) := by show decide (u ∈ L) = false; simp [hin]
        have HS' : Hid (onceL (xs.take (k + 1)) = L ++ [u]) := by show onceL (xs.take (k + 1)) = L ++ [u]; rw [HS.out, if_neg hin]
        clear hin
        have hb0 : w.heap.size ≤ wr.heap.size := hT.size
        go_wp2_with fail
        refine CC.out.mono ?_
        rw [hd.out]
        rintro e w2 ⟨rfl, rfl⟩
        go_wp2_with (at_builtin; refine wpList_append_sl elemI rfl _ _ rfl B m cb (i64s L) rfl (ho.alloc _) (some ⟨wr.heap.size, 0, none⟩) 1 1 [.int .i64 u] rfl (Sl.new _ #[.int .i64 u] _) (by simp) (by simp [Value.oneCell']) (by omega) (by omega) (by simp; omega) ?_; intro A' c' w3 hown1 hg hlie)
        go_roundw
        case rel =>
          refine ⟨k + 1, by omega, by go_num, A', m + 1, c', rfl, by rw [HS'.out]; show (L ++ [u]).length = m + 1; simp [HM.out], by omega, ?_, ?_⟩
          · rw [HS'.out]
            simpa [i64s] using hown1
          · exact (hT.alloc _).andThen (Turn.of_grown (S := B.toList.map (·.block)) hg (by intro k hk; cases B <;> simp_all)) (by intro i hi; exact .inr (own_lo ho hi))
        case measure => simp [intOf]; omega
    · go_wp2_with fail
      go_ret
      have e : onceL (xs.take k) = onceL xs := by rw [List.take_of_length_le (by rw [HN.out]; omega)]
      rw [e] at ho HM
      refine ⟨B, cb, ?_, ?_, hT⟩
      · rw [HM.out]; simp
      · rw [HM.out]; exact ho

/-- The closure that asks who is a target. -/
theorem such_c (x : Int) (tb : Nat) (A : Option Addr) (n c : Nat) (tg : List Int) (w : World) (ht : Blk w tb 23 #[.slice A n c]) (hx : Sl w A (i64s tg)) (hn : tg.length = n) (hl : n ≤ 9223372036854775806) :
    Calls Try.prog 23 #[.int .i64 x, .pointer (some ⟨tb, 0, none⟩)] w fun e w' => e = .returned (.bool (decide (x ∈ tg))) ∧ w = w' := by
  have CC := Lib.hid (contains_c A n c tg x w hx hn hl)
  have c0 := ht.cell 0
  clear hn
  go_enter Try.func23, Try.ntmps23
  go_wp2_with fail
  refine CC.out.mono ?_
  rintro e w2 ⟨rfl, rfl⟩
  go_wp2_with fail
  go_ret
  exact ⟨by simp, rfl⟩
end Go.Proofs.Ytibepkipbmfonaa
