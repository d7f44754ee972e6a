/- The law QuotaFair: its plain part and its walk. -/
import Derived.Test.YtjjhmedbekfkoaaLeft
import Derived.Test.YtjjhmedbekfkoaaLawKit
import Derived.LoopTactic
namespace Go.Proofs.Ytjjhmedbekfkoaa
open Go.RowKit Go.ChangeMaps

/-- What the law keeps: both know sender 1 alike, and the first one knows sender 2. -/
structure FairInv (ma mb : List (Int × Int × Int)) : Prop where
  one : kget ma 1 = kget mb 1
  some1 : kget ma 1 ≠ none
  some2 : kget ma 2 ≠ none

theorem qlook_congr {m m' : List (Int × Int × Int)} {s t : Int} (h : kget m s = kget m' s) : qlook m s t = qlook m' s t := by
  unfold qlook
  rw [h]
theorem qleft_congr {m m' : List (Int × Int × Int)} {times s t : Int} (h : kget m s = kget m' s) : qleft m times s t = qleft m' times s t := by
  unfold qleft
  rw [qlook_congr h]
/-- Another sender's entry stays. -/
theorem qtake_other {m : List (Int × Int × Int)} {times s t s' : Int} (hm : Rises m) (hne : s' ≠ s) : kget (qtake m times s t).2 s' = kget m s' := by
  unfold qtake
  split
  · rfl
  · split
    · rfl
    · split
      · rfl
      · exact kget_kput_other hm hne
/-- Who is known stays so. -/
theorem qtake_some {m : List (Int × Int × Int)} {times s t s' : Int} (hm : Rises m) (h : kget m s' ≠ none) : kget (qtake m times s t).2 s' ≠ none := by
  by_cases hne : s' = s
  · subst hne
    unfold qtake
    split
    · exact h
    · split
      · exact h
      · split
        · exact h
        · rw [kget_kput_same hm]; simp
  · rw [qtake_other hm hne]; exact h
/-- Of one who is known the answer, and his entry behind it, hang on his entry alone. -/
theorem qtake_congr {m m' : List (Int × Int × Int)} {times s t : Int} (hm : Rises m) (hm' : Rises m') (h : kget m s = kget m' s) (hs : kget m s ≠ none) :
    (qtake m times s t).1 = (qtake m' times s t).1 ∧ kget (qtake m times s t).2 s = kget (qtake m' times s t).2 s := by
  have hs' : kget m' s ≠ none := by rw [← h]; exact hs
  unfold qtake
  rw [qlook_congr h]
  split
  · exact ⟨rfl, h⟩
  · split
    · exact ⟨rfl, h⟩
    · rw [if_neg (fun c => hs c.1), if_neg (fun c => hs' c.1)]
      exact ⟨rfl, by rw [kget_kput_same hm, kget_kput_same hm']⟩

theorem fair_two {ma mb : List (Int × Int × Int)} {times t : Int} (h : FairInv ma mb) (hm : Rises ma) : FairInv (qtake ma times 2 t).2 mb :=
  ⟨by rw [qtake_other hm (by decide)]; exact h.one, by rw [qtake_other hm (by decide)]; exact h.some1, qtake_some hm h.some2⟩
theorem fair_one {ma mb : List (Int × Int × Int)} {times t : Int} (h : FairInv ma mb) (hm : Rises ma) (hm' : Rises mb) : FairInv (qtake ma times 1 t).2 (qtake mb times 1 t).2 :=
  ⟨(qtake_congr hm hm' h.one h.some1).2, qtake_some hm h.some1, qtake_some hm h.some2⟩

theorem mod_u64 (a n : Int) (h0 : 0 < n) (h1 : n ≤ 9223372036854775807) : 0 ≤ wrap64 ((IntKind.u64.wrap a).tmod n) ∧ wrap64 ((IntKind.u64.wrap a).tmod n) < n := by
  have h : 0 ≤ IntKind.u64.wrap a := by rw [IntKind.wrap_u64]; omega
  rw [Int.tmod_eq_emod_of_nonneg h]
  have h2 := Int.emod_nonneg (IntKind.u64.wrap a) (b := n) (by omega)
  have h3 := Int.emod_lt_of_pos (IntKind.u64.wrap a) h0
  rw [IntWalk.wrap64_in _ ⟨by omega, by omega⟩]
  exact ⟨h2, h3⟩

theorem qf1 {x : Int} (h : 1 ≤ x) : qtake [] x 1 0 = (0, [(1, 0, 1)]) := by
  have h' : ¬ x ≤ 0 := by omega
  simp [qtake, qlook, kget, atP, atN, h', kput, kins]
theorem qf2 {x : Int} (h : 1 ≤ x) : qtake [(1, 0, 1)] x 2 0 = (0, [(1, 0, 1), (2, 0, 1)]) := by
  have h' : ¬ x ≤ 0 := by omega
  simp [qtake, qlook, kget, atP, atN, h', kput, kins]

set_option maxRecDepth 100000 in
set_option maxHeartbeats 1000000 in
theorem fair_walk (times : Int) (A : Option Addr) (len cap : Nat) (F : Nat → Nat → Int) (w : World) (hl : Rows w A len 3 F) (hlen : len ≤ maxLen) :
    Calls Try.prog 3 #[.int .i64 times, .slice A len cap] w fun e w' => e = .returned (.bool true) ∧ Turn [] w w' := by
  unfold maxLen at hlen
  go_enter Try.func3, Try.ntmps3
  go_wp2_with fail
  obtain ⟨hr1, hr2⟩ := mod_u64 times 5 (by decide) (by decide)
  generalize wrap64 ((IntKind.u64.wrap times).tmod 5) = r at *
  have hr : wrap64 (1 + r) = 1 + r := IntWalk.wrap64_in _ ⟨by omega, by omega⟩
  rw [hr]
  clear hr
  have hr3 : 1 ≤ 1 + r := by omega
  have hr4 : 1 + r ≤ 255 := by omega
  generalize 1 + r = x at *
  clear hr1 hr2
  refine (new_e x _ hr3 hr4).mono ?_
  rintro e w1 ⟨qa, ba, rfl, ha1, a1, a2, hT1⟩
  go_wp2_with fail
  refine (new_e x _ hr3 hr4).mono ?_
  rintro e w2 ⟨qb, bb, rfl, hb2, b1, b2, hT2⟩
  have ha2 := ha1.turn hT2 (by simp) (by simp)
  have hab : qb ≠ qa ∧ qb ≠ ba ∧ bb ≠ qa ∧ bb ≠ ba := by have := ha1.lt; omega
  obtain ⟨n1, n2, n3, n4⟩ := hab
  go_wp2_with fail
  refine (take_c qa ba _ _ _ _ _ ha2 (by decide)).mono ?_
  rw [qf1 hr3]
  rintro e w3 ⟨rfl, ha3, hT3⟩
  have hb3 := hb2.turn hT3 (by simp [n2]) (by simp [n4])
  go_wp2_with fail
  refine (take_c qb bb _ _ _ _ _ hb3 (by decide)).mono ?_
  rw [qf1 hr3]
  rintro e w4 ⟨rfl, hb4, hT4⟩
  have ha4 := ha3.turn hT4 (by simp; omega) (by simp; omega)
  go_wp2_with fail
  refine (take_c qa ba _ _ _ _ _ ha4 (by decide)).mono ?_
  rw [qf2 hr3]
  rintro e w5 ⟨rfl, ha5, hT5⟩
  have hb5 := hb4.turn hT5 (by simp [n2]) (by simp [n4])
  have hs1 := hT1.size
  have hT : Turn [] w w5 := (((hT1.trans hT2).andThen hT3 (by simp; omega)).andThen hT4 (by simp; omega)).andThen hT5 (by simp; omega)
  clear ha1 ha2 hb2 ha3 hb3 ha4 hb4
  clear hT1 hT2 hT3 hT4 hT5
  go_wp2_with fail
  go_loopw [9] (fun i wr => ∃ k : Nat, k ≤ len ∧ i = .int .i64 k ∧ ∃ ma mb, QIs wr qa ba x ma ∧ QIs wr qb bb x mb ∧ FairInv ma mb ∧ Turn [] w wr) (fun i _ => len - (intOf i).toNat)
  case atStart => exact ⟨0, Nat.zero_le _, rfl, _, _, ha5, hb5, ⟨by decide, by decide, by decide⟩, hT⟩
  case round =>
    obtain ⟨k, hk, rfl, ma, mb, ha, hb, hI, hTr⟩ := hrel
    by_cases hlt : k < len
    · by_cases h60 : k < 60
      · obtain ⟨bl, off, rfl, hbl, hcell⟩ := hl (by omega)
        have cS := (hcell k hlt 1 (by decide)).1
        have cT := (hcell k hlt 2 (by decide)).1
        generalize F k 1 = S at *
        generalize F k 2 = T at *
        have dS := (hTr.cell (p := ⟨bl, off + k * 3 + 1, none⟩) hbl (by simp)).trans cS
        have dT := (hTr.cell (p := ⟨bl, off + k * 3 + 2, none⟩) hbl (by simp)).trans cT
        clear cT hcell hl
        go_wp2_with fail
        obtain ⟨hr1, hr2⟩ := mod_u64 T 1000 (by decide) (by decide)
        generalize wrap64 ((IntKind.u64.wrap T).tmod 1000) = tick at *
        have htick : tick ≤ 9223372036854775807 := by omega
        refine (take_c qa ba _ _ _ _ _ ha htick).mono ?_
        generalize ht1 : qtake ma x 2 tick = t1 at *
        rintro e w6 ⟨rfl, ha6, hT6⟩
        have hb6 := hb.turn hT6 (by simp [n2]) (by simp [n4])
        have hI6 := fair_two (times := x) (t := tick) hI ha.ok.rises
        rw [ht1] at hI6
        have hTr6 := hTr.andThen hT6 (by simp [a2])
        clear ha hb hI hTr hT6 ht1
        have dS6 := (hTr6.cell (p := ⟨bl, off + k * 3 + 1, none⟩) hbl (by simp)).trans cS
        go_wp2_with fail
        · go_roundw
          case rel => exact ⟨k + 1, by omega, by go_num, _, _, ha6, hb6, hI6, hTr6⟩
          case measure => simp [intOf]; omega
        · obtain ⟨ec, -⟩ := qtake_congr (times := x) (t := tick) ha6.ok.rises hb6.ok.rises hI6.one hI6.some1
          have hI8 := fair_one (times := x) (t := tick) hI6 ha6.ok.rises hb6.ok.rises
          refine (take_c qa ba _ _ _ _ _ ha6 htick).mono ?_
          rw [ec]
          generalize (qtake t1.2 x 1 tick).2 = m7 at *
          rintro e w7 ⟨rfl, ha7, hT7⟩
          have hb7 := hb6.turn hT7 (by simp [n2]) (by simp [n4])
          have hTr7 := hTr6.andThen hT7 (by simp [a2])
          clear hT7 ec ha6 hb6 hI6 hTr6
          go_wp2_with fail
          refine (take_c qb bb _ _ _ _ _ hb7 htick).mono ?_
          generalize (qtake mb x 1 tick).1 = er at *
          generalize (qtake mb x 1 tick).2 = m8 at *
          rintro e w8 ⟨rfl, hb8, hT8⟩
          have ha8 := ha7.turn hT8 (by simp; omega) (by simp; omega)
          have hTr8 := hTr7.andThen hT8 (by simp; omega)
          clear hT8 ha7 hb7 hTr7
          go_wp2_with fail
          refine (left_c qa ba _ _ _ _ _ ha8 htick).mono ?_
          rw [qleft_congr (m' := m8) hI8.one]
          rintro e w9 ⟨rfl, hT9⟩
          have ha9 := ha8.turn hT9 (by simp) (by simp)
          have hb9 := hb8.turn hT9 (by simp) (by simp)
          have hTr9 := hTr8.trans hT9
          clear hT9 hTr8 ha8 hb8
          go_wp2_with fail
          refine (left_c qb bb _ _ _ _ _ hb9 htick).mono ?_
          generalize qleft m8 x 1 tick = lf at *
          rintro e w10 ⟨rfl, hT10⟩
          have ha10 := ha9.turn hT10 (by simp) (by simp)
          have hb10 := hb9.turn hT10 (by simp) (by simp)
          have hTr10 := hTr9.trans hT10
          clear hT10 hTr9 ha9 hb9
          have HI8 := Lib.hid hI8
          clear hI8
          go_wp2_with fail
          go_roundw
          case rel => exact ⟨k + 1, by omega, by go_num, _, _, ha10, hb10, HI8.out, hTr10⟩
          case measure => simp [intOf]; omega
      · go_wp2_with fail
        refine (known_c _).mono ?_
        rintro e w6 ⟨rfl, hT6⟩
        go_wp2_with fail
        go_ret
        exact ⟨by simp, hTr.trans hT6⟩
    · go_wp2_with fail
      refine (known_c _).mono ?_
      rintro e w6 ⟨rfl, hT6⟩
      go_wp2_with fail
      go_ret
      exact ⟨by simp, hTr.trans hT6⟩
end Go.Proofs.Ytjjhmedbekfkoaa
