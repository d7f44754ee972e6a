/- The chapter's example of layer 30; nil nets. -/
import Derived.Test.YtiijgokgojjocaaNetDue
import Derived.Lib.SlBytesConst
namespace Go.Proofs.Ytiijgokgojjocaa
open Go.RowKit Go.ChangeMaps Go.WideMaps Go.MapKept Go.WideShapes Srt

theorem fate_first {cut : List (Int × Int)} {s tick fr dst : Int} {xs : List Int} (hc : pairOf fr dst ∉ cut) : (fate cut ⟨0, 0, 0, 1⟩ s tick fr dst xs).1 = [(tick + 1, fr, dst, xs)] := by
  have h0 := dbelow_range (n := 100) (s := s) (by omega)
  have h1 := dbelow_range (n := 100) (s := dstep s) (by omega)
  have h2 := dbelow_range (n := 100) (s := dstep (dstep s)) (by omega)
  have h3 : ∀ z, dbelow 1 z = 0 := fun z => by unfold dbelow; exact Int.emod_one _
  unfold fate
  rw [if_neg hc, if_neg (show ¬ dbelow 100 s < 0 by omega)]
  have ht : tmOf ⟨0, 0, 0, 1⟩ s = 1 := by unfold tmOf; exact if_neg (show ¬ dbelow 100 (dstep s) < 0 by omega)
  simp only [ht]
  rw [if_neg (show ¬ dbelow 100 (dstep (dstep s)) < 0 by omega)]
  simp [lates, h3]
theorem send_one {cut : List (Int × Int)} {s tick fr : Int} {l : Lt} {n : Nat} (hc : pairOf fr l.dst ∉ cut) (hn : n < 2048) : sendAll cut ⟨0, 0, 0, 1⟩ tick fr n s [l] = ([(tick + 1, fr, l.dst, l.xs)], (fate cut ⟨0, 0, 0, 1⟩ s tick fr l.dst l.xs).2, 0) := by
  unfold sendAll sendStep
  simp only [List.foldl_cons, List.foldl_nil, fate_first hc, List.nil_append, List.length_nil, Nat.add_zero]
  have : List.take (2048 - n) [(tick + 1, fr, l.dst, l.xs)] = [(tick + 1, fr, l.dst, l.xs)] := List.take_of_length_le (by simp; omega)
  rw [this]
  simp

set_option maxRecDepth 100000 in
set_option maxHeartbeats 4000000 in
theorem known_c (w : World) : Calls Try.prog 13 #[] w fun e w' => e = .returned (.bool true) ∧ Turn [] w w' := by
  have kc := fun (w : World) (C : Array Value) (n c : Nat) => Lib.run_convert_bytes_const (P := Try.prog) w 26 5 C n c Try.underlying26 Try.underlying5
  go_enter Try.func13, Try.ntmps13
  go_wp2_with fail
  refine (newN_c 1 w).mono ?_
  rintro e w1 ⟨g, d, cb, kb, base, rfl, N1, hlo, hT1⟩
  have TA := (Turn.refl [] w1).alloc (.cells #[.int .u8 97] 5 (1, 2))
  have TB := TA.alloc (.cells #[.int .i64 2, .slice (some ⟨w1.heap.size, 0, none⟩) 1 1] 29)
  have N3 := Lib.hid (N1.turn TB (by simp))
  have hlts := N1.lts
  have SA : Sl (w1.alloc (.cells #[.int .u8 97] 5 (1, 2))) (some ⟨w1.heap.size, 0, none⟩) (u8s [97]) := fun _ => by
    refine ⟨w1.heap.size, 0, rfl, by simp, fun j u hu => ?_⟩
    have := cell_of_row (w1.alloc (.cells #[.int .u8 97] 5 (1, 2))) w1.heap.size (0 + j) #[.int .u8 97] 5 (1, 2) (heap_alloc w1 _).1
    rw [this, Nat.zero_add]
    simpa [u8s] using hu
  have SB : Sl ((w1.alloc (.cells #[.int .u8 97] 5 (1, 2))).alloc (.cells #[.int .i64 2, .slice (some ⟨w1.heap.size, 0, none⟩) 1 1] 29)) (some ⟨w1.heap.size + 1, 0, none⟩) (lcs [⟨2, some ⟨w1.heap.size, 0, none⟩, 1, 1, [97]⟩]) := by
    have := Sl.new (w1.alloc (.cells #[.int .u8 97] 5 (1, 2))) #[.int .i64 2, .slice (some ⟨w1.heap.size, 0, none⟩) 1 1] 29
    simpa [lcs, lcell] using this
  have LO : LtOk ((w1.alloc (.cells #[.int .u8 97] 5 (1, 2))).alloc (.cells #[.int .i64 2, .slice (some ⟨w1.heap.size, 0, none⟩) 1 1] 29)) g d none (some ⟨w1.heap.size + 1, 0, none⟩) [⟨2, some ⟨w1.heap.size, 0, none⟩, 1, 1, [97]⟩] :=
    ⟨SB, fun _ i hi => by simp [blks] at hi ⊢; omega, fun l hl => by
      simp at hl
      subst hl
      exact ⟨SA.alloc _, rfl, by show 1 ≤ 1000000; omega, (show (Lit.int .i64 2).wf = true by decide), fun _ i hi => by simp [blks] at hi ⊢; omega⟩⟩
  have SN := Lib.hid (send_c N3.out 5 1 _ 1 1 [⟨2, some ⟨w1.heap.size, 0, none⟩, 1, 1, [97]⟩] (by omega) (by omega) (by unfold wf64; decide) LO rfl (by omega) (by omega) (by omega) (by omega) (by omega))
  have hlow := N1.low
  clear SA SB LO N1
  go_wp2_with fail
  refine SN.out.mono ?_
  rintro e w4 ⟨ms', rfl, A', cap', N4, hpu, hT4, hA4⟩
  simp only [List.length_cons, List.length_nil, List.take_of_length_le (show ([⟨2, some ⟨w1.heap.size, 0, none⟩, 1, 1, [97]⟩] : List Lt).length ≤ 0 + 1 by simp)] at N4 hpu
  rw [send_one (by simp) (by omega)] at N4 hpu
  simp only at N4 hpu
  obtain ⟨m, rfl, hm⟩ := List.map_eq_singleton_iff.1 hpu
  have hdue : m.due = 6 := by unfold Ml.pure at hm; injection hm
  have f5 : [m].filter (isDue 5) = [] := by simp [isDue, hdue]
  have f5n : [m].filter (fun x => !isDue 5 x) = [m] := by simp [isDue, hdue]
  have f6 : [m].filter (isDue 6) = [m] := by simp [isDue, hdue]
  have TT : Turn [] w w4 := (hT1.trans TB).andThen hT4 (fun i hi => by simp [blks] at hi; rcases hi with rfl | rfl <;> exact .inr (by omega))
  simp only [List.nil_append, List.length_cons, List.length_nil] at N4
  have D5 := Lib.hid (dueN_c N4 5 (by simp) 0 CameOk.nil (by omega) (by omega) (by omega))
  have HN4 := Lib.hid N4
  have HA4 := Lib.hid hA4
  clear N4 hpu hm hdue hA4
  go_wp2_with fail
  refine D5.out.mono ?_
  rintro e w5 ⟨O, co, n5, cap5, rfl, -, N5, -, hT5⟩
  rw [f5, f5n] at N5
  rw [f5]
  have D6 := Lib.hid (dueN_c N5 6 (by simp [cameAll]) 0 CameOk.nil (by omega) (by simp) (by simp))
  have hA5 := own_ltA HN4.out.row
  have TT5 : Turn [] w w5 := TT.andThen hT5 (fun i hi => by
    simp at hi
    rcases hi with rfl | rfl | hi
    · exact .inr (by omega)
    · exact .inr (by omega)
    · exact .inr (by have := (hA5 i hi).2; omega))
  have HN5 := Lib.hid N5
  clear N5 f5 f5n
  go_wp2_with fail
  refine D6.out.mono ?_
  rintro e w6 ⟨O6, co6, n6, cap6, rfl, -, -, -, hT6⟩
  rw [f6]
  have hA6 := own_ltA HN5.out.row
  have TT6 : Turn [] w w6 := TT5.andThen hT6 (fun i hi => by
    simp at hi
    rcases hi with rfl | rfl | hi
    · exact .inr (by omega)
    · exact .inr (by omega)
    · exact .inr (by have := (hA6 i hi).2; omega))
  clear f6
  go_wp2_with fail
  go_ret
  exact ⟨by simp, TT6⟩
end Go.Proofs.Ytiijgokgojjocaa
