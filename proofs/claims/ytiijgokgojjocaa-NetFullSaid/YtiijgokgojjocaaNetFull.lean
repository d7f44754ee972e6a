/- The walk of NetFull. -/
import Derived.Test.YtiijgokgojjocaaNetKnown
namespace Go.Proofs.Ytiijgokgojjocaa
open Go.RowKit Go.ChangeMaps Go.WideMaps Go.MapKept Go.WideShapes Srt

theorem send_none {cut : List (Int × Int)} {r : Rl} {s tick fr : Int} {l : Lt} {n : Nat} (hn : 2048 ≤ n) : sendAll cut r tick fr n s [l] = ([], (fate cut r s tick fr l.dst l.xs).2, 1) := by
  unfold sendAll sendStep
  simp only [List.foldl_cons, List.foldl_nil, List.nil_append, List.length_nil, Nat.add_zero, show 2048 - n = 0 by omega, List.take_zero]
  simp

set_option maxRecDepth 100000 in
set_option maxHeartbeats 4000000 in
theorem nfull_walk (s0 fr dst : Int) (w : World) (hfr : wf64 fr) (hdst : wf64 dst) : Calls Try.prog 4 #[.int .u64 s0, .int .i64 fr, .int .i64 dst] w fun e w' => e = .returned (.bool true) ∧ Turn [] w w' := by
  have KC := Lib.hid (fun wz => known_c wz)
  go_enter Try.func4, Try.ntmps4
  go_wp2_with fail
  refine (newN_c s0 w).mono ?_
  rintro e w1 ⟨g, d, cb, kb, base, rfl, N1, hlo, hT1⟩
  have HN1 := Lib.hid N1
  clear N1
  go_wp2_with fail
  go_loopw [8] (fun ix wr => ∃ i : Nat, i ≤ 2100 ∧ ix = .int .i64 i ∧ ∃ s A cap ms nn ll, Hid (nn = min i 2048) ∧ Hid (ll = i - 2048) ∧ NetIs wr g d cb kb s ⟨0, 0, 0, 1⟩ [] [] base A nn cap ms (i : Int) (ll : Int) 0 ∧ (∀ m ∈ ms, m.due = 6) ∧ Turn [] w wr) (fun ix _ => 2100 - (intOf ix).toNat)
  case atStart => exact ⟨0, by omega, rfl, s0, none, 0, [], 0, 0, Lib.hid rfl, Lib.hid rfl, HN1.out, by simp, hT1⟩
  case round =>
    obtain ⟨i, hi, rfl, s, A, cap, ms, nn, ll, HNN2, HLL, N, hdue, hT⟩ := hrel
    have hllb : (ll : Int) ≤ 2100 := by have := HLL.out; omega
    obtain ⟨w2, rfl⟩ : ∃ wo : World, wo = wr := ⟨_, rfl⟩
    have i0 : (0 : Int) ≤ (i : Int) := Int.natCast_nonneg _
    have TB := (Turn.refl [] w2).alloc (.cells #[.int .i64 dst, .slice none 0 0] 29)
    have N2 := Lib.hid (N.turn TB (by simp))
    have hlts := N.lts
    have hlow := N.low
    have hA := own_ltA N.row
    have HDUE := Lib.hid hdue
    have HNN := Lib.hid N
    by_cases hlt : i < 2100
    · have i1 : (i : Int) < 2100 := by omega
      have SB : Sl (w2.alloc (.cells #[.int .i64 dst, .slice none 0 0] 29)) (some ⟨w2.heap.size, 0, none⟩) (lcs [⟨dst, none, 0, 0, []⟩]) := by
        have := Sl.new w2 #[.int .i64 dst, .slice none 0 0] 29
        simpa [lcs, lcell] using this
      have LO : LtOk (w2.alloc (.cells #[.int .i64 dst, .slice none 0 0] 29)) g d A (some ⟨w2.heap.size, 0, none⟩) [⟨dst, none, 0, 0, []⟩] :=
        ⟨SB, fun _ j hj => by simp [blks] at hj; subst hj; exact ⟨by omega, by omega, fun hm => by have := (hA _ hm).1; omega⟩, fun l hl => by
          simp at hl
          subst hl
          exact ⟨Sl.nil _ _, rfl, by show 0 ≤ 1000000; omega, hdst, fun h => absurd rfl h⟩⟩
      have SN := Lib.hid (send_c N2.out 5 fr _ 1 1 [⟨dst, none, 0, 0, []⟩] (by omega) (by omega) hfr LO rfl (by omega) (by omega) (by omega) (by omega) (by omega))
      have fin : ∀ w4, Turn (g :: d :: blks A) (w2.alloc (.cells #[.int .i64 dst, .slice none 0 0] 29)) w4 → Turn [] w w4 := fun w4 h4 => (hT.trans TB).andThen h4 (fun j hj => by
        simp at hj
        rcases hj with rfl | rfl | hj
        · exact .inr (by omega)
        · exact .inr (by omega)
        · exact .inr (by have := (hA j hj).2; omega))
      have FIN := Lib.hid fin
      clear SB LO N hdue fin
      by_cases h2 : i < 2048
      · as_aux_lemma =>
          have j1 : ¬ (2048 : Int) ≤ (i : Int) := by omega
          obtain ⟨s', hso⟩ : ∃ s', sendAll [] ⟨0, 0, 0, 1⟩ 5 fr nn s [⟨dst, none, 0, 0, []⟩] = ([(5 + 1, fr, dst, [])], s', 0) := ⟨_, send_one (by simp) (by have := HNN2.out; omega)⟩
          have HSO := Lib.hid hso
          clear hso
          go_wp2_with fail
          refine SN.out.mono ?_
          rintro e w4 ⟨ms', rfl, A', cap', N4, hpu, hT4, hA4⟩
          simp only [List.length_cons, List.length_nil, List.take_of_length_le (show ([⟨dst, none, 0, 0, []⟩] : List Lt).length ≤ 0 + 1 by simp)] at N4 hpu
          rw [HSO.out] at N4 hpu
          simp only at N4 hpu
          obtain ⟨m, rfl, hm⟩ := List.map_eq_singleton_iff.1 hpu
          have hdu : m.due = 6 := by unfold Ml.pure at hm; injection hm
          have hnn4 : Hid (nn + [m].length = min (i + 1) 2048) := by show _ = _; have := HNN2.out; simp; omega
          have e2 : (i : Int) + ((0 + 1 : Nat) : Int) = ((i + 1 : Nat) : Int) := by omega
          have hll4 : Hid (ll + 0 = i + 1 - 2048) := by show _ = _; have := HLL.out; omega
          have e3 : (ll : Int) + ((0 : Nat) : Int) = ((ll + 0 : Nat) : Int) := by omega
          rw [e2, e3] at N4
          have HN4 := Lib.hid N4
          have HT4 := Lib.hid (FIN.out _ hT4)
          have hdue4 : ∀ x ∈ ms ++ [m], x.due = 6 := fun x hx => by
            rcases List.mem_append.1 hx with hx | hx
            · exact HDUE.out x hx
            · simp at hx; subst hx; exact hdu
          have HD4 := Lib.hid hdue4
          clear N4 hT4 e2 e3 hm hdu hpu hA4 hdue4
          go_wp2_with fail
          go_roundw
          case rel => exact ⟨i + 1, by omega, by go_num, _, A', cap', ms ++ [m], _, _, hnn4, hll4, HN4.out, HD4.out, HT4.out⟩
          case measure => simp [intOf]; omega
      · as_aux_lemma =>
          have j1 : (2048 : Int) ≤ (i : Int) := by omega
          obtain ⟨s', hso⟩ : ∃ s', sendAll [] ⟨0, 0, 0, 1⟩ 5 fr nn s [⟨dst, none, 0, 0, []⟩] = ([], s', 1) := ⟨_, send_none (by have := HNN2.out; omega)⟩
          have HSO := Lib.hid hso
          clear hso
          go_wp2_with fail
          refine SN.out.mono ?_
          rintro e w4 ⟨ms', rfl, A', cap', N4, hpu, hT4, hA4⟩
          simp only [List.length_cons, List.length_nil, List.take_of_length_le (show ([⟨dst, none, 0, 0, []⟩] : List Lt).length ≤ 0 + 1 by simp)] at N4 hpu
          rw [HSO.out] at N4 hpu
          simp only at N4 hpu
          obtain rfl : ms' = [] := List.map_eq_nil_iff.1 hpu
          have hnn4 : Hid (nn + ([] : List Ml).length = min (i + 1) 2048) := by show _ = _; have := HNN2.out; simp; omega
          have e2 : (i : Int) + ((0 + 1 : Nat) : Int) = ((i + 1 : Nat) : Int) := by omega
          have hll4 : Hid (ll + 1 = i + 1 - 2048) := by show _ = _; have := HLL.out; omega
          have e3 : (ll : Int) + ((1 : Nat) : Int) = ((ll + 1 : Nat) : Int) := by omega
          rw [e2, e3, List.append_nil] at N4
          have HN4 := Lib.hid N4
          have HT4 := Lib.hid (FIN.out _ hT4)
          clear N4 hT4 e2 e3 hpu hA4
          go_wp2_with fail
          go_roundw
          case rel => exact ⟨i + 1, by omega, by go_num, _, A', cap', ms, _, _, hnn4, hll4, HN4.out, HDUE.out, HT4.out⟩
          case measure => simp [intOf]; omega
    · as_aux_lemma =>
        obtain rfl : i = 2100 := by omega
        clear N TB N2
        have N := HNN.out
        obtain rfl : nn = 2048 := by have := HNN2.out; omega
        obtain rfl : ll = 52 := by have := HLL.out; omega
        have HN := Lib.hid N
        have CT := Lib.hid (counts_c N)
        have hf6 : ms.filter (isDue 6) = ms := by
          rw [List.filter_eq_self]
          intro m hm
          simp [isDue, hdue m hm]
        have hf6n : ms.filter (fun m => !isDue 6 m) = [] := by
          rw [List.filter_eq_nil_iff]
          intro m hm
          simp [isDue, hdue m hm]
        have hml := N.len
        have HF := Lib.hid (And.intro hf6 (And.intro hf6n hml))
        clear N hdue hf6 hf6n hml
        go_wp2_with fail
        refine CT.out.mono ?_
        rintro e w3 ⟨rfl, hT3⟩
        have N3 := Lib.hid (HN.out.turn hT3 (by simp))
        have IJ := Lib.hid (inject_c N3.out 5 fr dst none 0 0 [] (by omega) (by omega) (Sl.nil _ _) rfl (by omega) hfr hdst)
        go_wp2_with fail
        refine IJ.out.mono ?_
        rintro e w4 (⟨-, rfl, N4, hT4⟩ | ⟨h0, -⟩)
        · have DU := Lib.hid (dueN_c N4 6 (by simp) 0 CameOk.nil (by omega) (by omega) (by omega))
          have HN4 := Lib.hid N4
          clear N4
          go_wp2_with fail
          refine DU.out.mono ?_
          rintro e w5 ⟨O, co, n5, cap5, rfl, -, N5, -, hT5⟩
          have hA5 := own_ltA HN4.out.row
          have TT5 : Turn [] w w5 := ((hT.trans hT3).trans hT4).andThen hT5 (fun j hj => by
            simp at hj
            rcases hj with rfl | rfl | hj
            · exact .inr (by omega)
            · exact .inr (by omega)
            · exact .inr (by have := (hA5 j hj).2; omega))
          rw [HF.out.1, HF.out.2.1, HF.out.2.2] at N5
          rw [HF.out.1, HF.out.2.2]
          obtain rfl : n5 = 0 := by have := N5.len; simpa using this.symm
          have HN5 := Lib.hid N5
          clear N5
          go_wp2_with fail
          refine (KC.out _).mono ?_
          rintro e w6 ⟨rfl, hT6⟩
          have N6 := Lib.hid (HN5.out.turn hT6 (by simp))
          have LN := Lib.hid (lenN_c N6.out)
          go_wp2_with fail
          refine LN.out.mono ?_
          rintro e w7 ⟨rfl, rfl⟩
          have IJ2 := Lib.hid (inject_c N6.out 6 fr dst none 0 0 [] (by omega) (by omega) (Sl.nil _ _) rfl (by omega) hfr hdst)
          go_wp2_with fail
          refine IJ2.out.mono ?_
          rintro e w8 (⟨h0, -⟩ | ⟨-, rfl, A8, cap8, m8, -, -, hT8, -⟩)
          · omega
          · have hA8 := own_ltA N6.out.row
            have TT8 : Turn [] w w8 := (TT5.trans hT6).andThen hT8 (fun j hj => by
              simp at hj
              rcases hj with rfl | hj
              · exact .inr (by omega)
              · exact .inr (by have := (hA8 j hj).2; omega))
            go_wp2_with fail
            go_ret
            exact ⟨by simp, TT8⟩
        · omega
end Go.Proofs.Ytiijgokgojjocaa
