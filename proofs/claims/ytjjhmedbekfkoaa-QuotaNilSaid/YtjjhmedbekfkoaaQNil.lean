/- Contracts of a nil Quotas; the walk of the law QuotaNil. -/
import Derived.Test.YtjjhmedbekfkoaaLeft
namespace Go.Proofs.Ytjjhmedbekfkoaa
open Go.RowKit Go.ChangeMaps

theorem take_nil (s t : Int) (w : World) : Calls Try.prog 9 #[.pointer none, .int .i64 s, .int .i64 t] w fun e w' => e = .returned (.int .i64 11) ∧ Turn [] w w' := by
  go_enter Try.func9, Try.ntmps9
  go_wp2_with (go_at_call 25; refine (look_nil _ _ _).mono ?_; rintro e w1 ⟨rfl, hT⟩; obtain ⟨hc, hf⟩ := hT.cells; have hz := hT.size)
  go_ret
  exact ⟨by simp, hT.alloc _⟩
theorem left_nil (s t : Int) (w : World) : Calls Try.prog 10 #[.pointer none, .int .i64 s, .int .i64 t] w fun e w' => e = .returned (.int .i64 0) ∧ Turn [] w w' := by
  go_enter Try.func10, Try.ntmps10
  go_wp2_with (go_at_call 25; refine (look_nil _ _ _).mono ?_; rintro e w1 ⟨rfl, hT⟩; obtain ⟨hc, hf⟩ := hT.cells; have hz := hT.size)
  go_ret
  exact ⟨by simp, hT.alloc _⟩
theorem drop_nil (v : Value) (w : World) : Calls Try.prog 20 #[.pointer none, v] w fun e w' => e = .returned (.int .i64 0) ∧ w = w' := by
  go_enter Try.func20, Try.ntmps20
  go_wp2_with fail
  go_ret
  exact ⟨by simp, rfl⟩
theorem senders_nil (w : World) : Calls Try.prog 15 #[.pointer none] w fun e w' => e = .returned (.slice none 0 0) ∧ w = w' := by
  go_enter Try.func15, Try.ntmps15
  go_wp2_with fail
  go_ret
  exact ⟨by simp, rfl⟩
theorem times_nil (w : World) : Calls Try.prog 18 #[.pointer none] w fun e w' => e = .returned (.int .i64 0) ∧ w = w' := by
  go_enter Try.func18, Try.ntmps18
  go_wp2_with fail
  go_ret
  exact ⟨by simp, rfl⟩

set_option maxRecDepth 100000 in
set_option maxHeartbeats 1000000 in
theorem nil_walk (s t : Int) (w : World) (ht : t ≤ 9223372036854775807) : Calls Try.prog 7 #[.int .i64 s, .int .i64 t] w fun e w' => e = .returned (.bool true) ∧ Turn [] w w' := by
  by_cases h0 : 0 < t
  · go_enter Try.func7, Try.ntmps7
    go_wp2_with fail
    refine (known_c _).mono ?_
    rintro e w1 ⟨rfl, hT1⟩
    go_wp2_with fail
    refine (take_nil _ _ _).mono ?_
    rintro e w2 ⟨rfl, hT2⟩
    go_wp2_with fail
    refine (left_nil _ _ _).mono ?_
    rintro e w3 ⟨rfl, hT3⟩
    go_wp2_with fail
    refine (drop_nil _ _).mono ?_
    rintro e w4 ⟨rfl, rfl⟩
    go_wp2_with fail
    refine (senders_nil _).mono ?_
    rintro e w5 ⟨rfl, rfl⟩
    go_wp2_with fail
    refine (times_nil _).mono ?_
    rintro e w6 ⟨rfl, rfl⟩
    go_wp2_with fail
    refine (period_c t _ (by omega) ht).mono ?_
    rintro e w7 ⟨rfl, rfl⟩
    go_wp2_with fail
    go_ret
    exact ⟨by simp, ((hT1.trans hT2).trans hT3).alloc _⟩
  · by_cases h1 : t < 0
    · go_enter Try.func7, Try.ntmps7
      go_wp2_with fail
      refine (known_c _).mono ?_
      rintro e w1 ⟨rfl, hT1⟩
      go_wp2_with fail
      refine (take_nil _ _ _).mono ?_
      rintro e w2 ⟨rfl, hT2⟩
      go_wp2_with fail
      refine (left_nil _ _ _).mono ?_
      rintro e w3 ⟨rfl, hT3⟩
      go_wp2_with fail
      refine (drop_nil _ _).mono ?_
      rintro e w4 ⟨rfl, rfl⟩
      go_wp2_with fail
      refine (senders_nil _).mono ?_
      rintro e w5 ⟨rfl, rfl⟩
      go_wp2_with fail
      refine (times_nil _).mono ?_
      rintro e w6 ⟨rfl, rfl⟩
      go_wp2_with fail
      refine (period_neg t _ h1).mono ?_
      rintro e w7 ⟨rfl, rfl⟩
      go_wp2_with fail
      go_ret
      exact ⟨by simp, ((hT1.trans hT2).trans hT3).alloc _⟩
    · obtain rfl : t = 0 := by omega
      go_enter Try.func7, Try.ntmps7
      go_wp2_with fail
      refine (known_c _).mono ?_
      rintro e w1 ⟨rfl, hT1⟩
      go_wp2_with fail
      refine (take_nil _ _ _).mono ?_
      rintro e w2 ⟨rfl, hT2⟩
      go_wp2_with fail
      refine (left_nil _ _ _).mono ?_
      rintro e w3 ⟨rfl, hT3⟩
      go_wp2_with fail
      refine (drop_nil _ _).mono ?_
      rintro e w4 ⟨rfl, rfl⟩
      go_wp2_with fail
      refine (senders_nil _).mono ?_
      rintro e w5 ⟨rfl, rfl⟩
      go_wp2_with fail
      refine (times_nil _).mono ?_
      rintro e w6 ⟨rfl, rfl⟩
      go_wp2_with fail
      refine (period_c 0 _ (by omega) ht).mono ?_
      rintro e w7 ⟨rfl, rfl⟩
      go_wp2_with fail
      go_ret
      exact ⟨by simp, ((hT1.trans hT2).trans hT3).alloc _⟩
end Go.Proofs.Ytjjhmedbekfkoaa
