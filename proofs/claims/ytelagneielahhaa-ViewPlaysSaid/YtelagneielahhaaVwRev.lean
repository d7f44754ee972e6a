/- revoke.Set's Revoke. -/
import Derived.Test.YtelagneielahhaaVwTwice
import Derived.Test.YtelagneielahhaaVwCat
import Derived.Test.YtelagneielahhaaIdxI
namespace Go.Proofs.Ytelagneielahhaa
open Go.RowKit Go.ChangeMaps Go.Lib

/-- Serials are as they may be. -/
def serOk (l : List Int) : Prop := ∀ x ∈ l, 1 ≤ x ∧ x ≤ 65535
instance (l : List Int) : Decidable (serOk l) := by unfold serOk; exact inferInstance
theorem enterSer (args : Array Value) (w : World) : (callFunc 59 args).run Try.prog w = .ok (.enter 59 args) w := by kernel_rfl
theorem serials1_c (x : Int) (w : World) : Calls Try.prog 59 #[.int .i64 x] w fun e w' => e = .returned (.bool (decide (x < 1) || decide (65535 < x))) ∧ Turn [] w w' := by
  by_cases h0 : x < 1
  · go_enter Try.func59, Try.ntmps59
    go_wp2_with fail
    go_ret
    exact ⟨by simp; omega, Turn.refl _ _⟩
  · have hd : Hid (decide (x < 1) = false) := by show _ = _; simpa using h0
    go_enter Try.func59, Try.ntmps59
    go_wp2_with fail
    go_ret
    exact ⟨by rw [hd.out]; simp, Turn.refl _ _⟩
theorem serials_c (A : Option Addr) (n c : Nat) (l : List Int) (w : World) (hx : Sl w A (i64s l)) (hn : l.length = n) (hl : n ≤ 9223372036854775806) :
    Calls Try.prog 43 #[.slice A n c] w fun e w' => e = .returned (.bool (decide (serOk l))) ∧ Turn [] w w' := by
  have CF := Lib.hid (containsFI_c 59 (fun x => decide (x < 1) || decide (65535 < x)) A n c l w hx hn hl enterSer (fun wz _ x => serials1_c x wz))
  have hany : Hid (decide (serOk l) = !l.any (fun x => decide (x < 1) || decide (65535 < x))) := by
    show _ = _
    rw [Bool.eq_iff_iff, decide_eq_true_eq]
    unfold serOk
    simp only [Bool.not_eq_true', List.any_eq_false, Bool.or_eq_true, decide_eq_true_eq]
    constructor
    · intro h x hx
      have := h x hx
      omega
    · intro h x hx
      have := h x hx
      omega
  clear hx hn
  generalize l.any (fun x => decide (x < 1) || decide (65535 < x)) = bad at *
  go_enter Try.func43, Try.ntmps43
  go_wp2_with fail
  refine CF.out.mono ?_
  rintro e w1 ⟨rfl, hT⟩
  go_wp2_with fail
  go_ret
  exact ⟨by rw [hany.out]; simp, hT⟩
/-- What Revoke answers, and the log behind it. -/
def revR (xs l : List Int) : Int × List Int :=
  if ¬ serOk l then (10, xs) else if ¬ (xs ++ l).Nodup then (8, xs) else if 256 < (xs ++ l).length then (6, xs) else (0, xs ++ l)
def Revoked (w : World) (s : Nat) (G : Nat → Lg) (i : Nat) (l : List Int) (e : Ending) (w' : World) : Prop :=
  ∃ G', e = .returned (.int .i64 (revR (G i).xs l).1) ∧ SIs w' s G' ∧ (∀ j, j ≠ i → G' j = G j) ∧ (G' i).xs = (revR (G i).xs l).2 ∧ (∀ j, ∀ x ∈ blks (G' j).A, x ∈ blks (G j).A ∨ w.heap.size ≤ x) ∧ Turn [s] w w'
theorem SIs.setLog {w : World} {s : Nat} {G : Nat → Lg} (h : SIs w s G) {i : Nat} (hi : i < 4) (l : Lg) (hl : Sl w l.A (i64s l.xs)) (hn : l.xs.length = l.n) (h256 : l.n ≤ 256) (hA : ∀ j ∈ blks l.A, j < w.heap.size ∧ j ≠ s) :
    SIs (w.setCell ⟨s, i, none⟩ l.val) s (fun j => if j = i then l else G j) ∧ Turn [s] w (w.setCell ⟨s, i, none⟩ l.val) := by
  have T : Turn [s] w (w.setCell ⟨s, i, none⟩ l.val) := (Turn.refl [s] w).setCell (.inl (by simp)) _
  refine ⟨⟨?_, fun j hj => ?_⟩, T⟩
  · have hb := h.blk.set_ i l.val
    match i, hi with
    | 0, _ => simpa using hb
    | 1, _ => simpa using hb
    | 2, _ => simpa using hb
    | 3, _ => simpa using hb
  · by_cases hji : j = i
    · simp only [hji, if_true]
      exact ⟨hl.turn T (off_blks (fun x hx hm => (hA x hx).2 (by simpa using hm))), hn, h256, fun x hx => ⟨Nat.lt_of_lt_of_le (hA x hx).1 T.size, (hA x hx).2⟩⟩
    · simp only [hji, if_false]
      obtain ⟨h1, h2, h3, h4⟩ := h.ok j hj
      exact ⟨h1.turn T (off_blks (fun x hx hm => (h4 x hx).2 (by simpa using hm))), h2, h3, fun x hx => ⟨Nat.lt_of_lt_of_le (h4 x hx).1 T.size, (h4 x hx).2⟩⟩
set_option maxRecDepth 100000 in
set_option maxHeartbeats 4000000 in
theorem revoke_c {w : World} {s : Nat} {G : Nat → Lg} (h : SIs w s G) (i : Nat) (hi : i < 4) (A : Option Addr) (n c : Nat) (l : List Int) (hx : Sl w A (i64s l)) (hn : l.length = n) (hl : n ≤ 1000) :
    Calls Try.prog 23 #[.pointer (some ⟨s, 0, none⟩), .int .i64 ((i : Nat) : Int), .slice A n c] w (Revoked w s G i l) := by
  have SE := serials_c A n c l w hx hn (by omega)
  have i0 : (0 : Int) ≤ (i : Int) := Int.natCast_nonneg _
  have i1 : (i : Int) < 4 := by omega
  have HS := Lib.hid h
  have HX := Lib.hid hx
  have HN := Lib.hid hn
  have hsl := h.blk.lt
  clear hx hn
  unfold Revoked
  by_cases hser : serOk l
  · have hd : decide (serOk l) = true := by simpa using hser
    rw [hd] at SE
    have HSE := Lib.hid SE
    have HOK := Lib.hid hser
    clear SE hd hser
    go_enter Try.func23, Try.ntmps23
    go_wp2_with fail
    refine HSE.out.mono ?_
    rintro e w1 ⟨rfl, hT1⟩
    have S1 := HS.out.turn0 hT1
    have c0 := S1.cell hi
    obtain ⟨g1, g2, g3, g4⟩ := S1.ok i hi
    have HS1 := Lib.hid S1
    have HT1 := Lib.hid hT1
    have sl1 := S1.blk.lt
    have TC := (Turn.refl [] w1).alloc (.cells #[.slice (G i).A (G i).n (G i).c, .slice A n c] 45)
    have SLC : Sl (w1.alloc (.cells #[.slice (G i).A (G i).n (G i).c, .slice A n c] 45)) (some ⟨w1.heap.size, 0, none⟩) ([G i, ⟨A, n, c, l⟩].map Lg.val) := by
      have := Sl.new w1 #[.slice (G i).A (G i).n (G i).c, .slice A n c] 45
      simpa [Lg.val] using this
    have CN := Lib.hid (concat_c (some ⟨w1.heap.size, 0, none⟩) 2 2 [G i, ⟨A, n, c, l⟩] _ SLC rfl (by omega) (fun g hg => by
      simp at hg
      rcases hg with rfl | rfl
      · exact ⟨g1.turn0 TC, g2⟩
      · exact ⟨(HX.out.turn0 hT1).turn0 TC, HN.out⟩) (by simp [lgSum]; omega))
    have hall : lgAll [G i, ⟨A, n, c, l⟩] = (G i).xs ++ l := by simp [lgAll]
    rw [hall] at CN
    clear S1 hT1 g1 g4 SLC hall h
    generalize hgi : G i = gi at *
    have HGI := Lib.hid hgi
    clear hgi
    obtain ⟨gA, gn, gc, gx⟩ := gi
    simp only at c0 g2 g3 CN TC
    simp only
    go_wp2_with fail
    refine CN.out.mono ?_
    rintro e w2 ⟨D, m, cd, rfl, oD, hT2⟩
    have hm := own_i64 oD
    have hDl := own_ltA oD
    have T2 := HT1.out.trans (TC.trans hT2)
    have S2 := HS.out.turn0 T2
    have HS2 := Lib.hid S2
    have HD := Lib.hid oD
    have HT2 := Lib.hid T2
    have hml : m ≤ 1256 := by rw [List.length_append] at hm; have := HN.out; omega
    have TW := twice_c D m cd (gx ++ l) w2 (Sl.of_own oD) hm (by omega) (fun x hx => (hDl x hx).1)
    have HM := Lib.hid hm
    have sl2 := S2.blk.lt
    have f2 := S2.blk.frozen i
    clear oD S2 T2 hT2 TC hm
    by_cases hnd : (gx ++ l).Nodup
    · have hd : decide (¬ (gx ++ l).Nodup) = false := by simpa using hnd
      rw [hd] at TW
      have HTW := Lib.hid TW
      have HND := Lib.hid hnd
      clear TW hd hnd c0
      go_wp2_with fail
      refine HTW.out.mono ?_
      rintro e w3 ⟨rfl, hT3⟩
      have S3 := HS2.out.turn0 hT3
      have c3 := S3.cell hi
      have sl3 := S3.blk.lt
      have f3 := S3.blk.frozen i
      have HS3 := Lib.hid S3
      have HT3 := Lib.hid (HT2.out.trans hT3)
      have HD3 := Lib.hid (own_turnA HD.out hT3 (by simp))
      have hz3 := hT3.size
      clear S3 hT3
      by_cases h256 : 256 < m
      · have RS : Hid (revR (G i).xs l = (6, gx)) := by
          show _ = _
          rw [HGI.out]
          unfold revR
          rw [if_neg (fun hh => hh HOK.out), if_neg (fun hh => hh HND.out), if_pos (by rw [HM.out]; exact h256)]
        have m1 : (256 : Int) < (m : Int) := by omega
        go_wp2_with fail
        go_ret
        exact ⟨G, by rw [RS.out]; simp, HS3.out, fun _ _ => rfl, by rw [RS.out, HGI.out], fun j x hx => .inl hx, HT3.out.mono (by simp)⟩
      · have RS : Hid (revR (G i).xs l = (0, gx ++ l)) := by
          show _ = _
          rw [HGI.out]
          unfold revR
          rw [if_neg (fun hh => hh HOK.out), if_neg (fun hh => hh HND.out), if_neg (by rw [HM.out]; exact h256)]
        have m1 : ¬ (256 : Int) < (m : Int) := by omega
        have SL := Lib.hid (HS3.out.setLog hi ⟨D, m, cd, gx ++ l⟩ (Sl.of_own HD3.out) HM.out (by show m ≤ 256; omega) (fun x hx => ⟨(own_ltA HD3.out x hx).1, by have h1 := (hDl x hx).2; simp at h1; have h2 := HS1.out.blk.lt; omega⟩))
        unfold Lg.val at SL
        simp only at SL
        go_wp2_with fail
        go_ret
        refine ⟨_, by rw [RS.out]; simp, SL.out.1, fun j hj => by simp [hj], by simp [RS.out], fun j x hx => ?_, (HT3.out.mono (by simp)).trans SL.out.2⟩
        by_cases hji : j = i
        · simp only [hji, if_true] at hx
          right
          have := (hDl x hx).2
          simp at this
          have := HT1.out.size
          omega
        · simp only [hji, if_false] at hx
          exact .inl hx
    · have hd : decide (¬ (gx ++ l).Nodup) = true := by simpa using hnd
      have RS : Hid (revR (G i).xs l = (8, gx)) := by
        show _ = _
        rw [HGI.out]
        unfold revR
        rw [if_neg (fun hh => hh HOK.out), if_pos hnd]
      rw [hd] at TW
      have HTW := Lib.hid TW
      clear TW hd hnd c0
      go_wp2_with fail
      refine HTW.out.mono ?_
      rintro e w3 ⟨rfl, hT3⟩
      go_wp2_with fail
      go_ret
      exact ⟨G, by rw [RS.out]; simp, HS2.out.turn0 hT3, fun _ _ => rfl, by rw [RS.out, HGI.out], fun j x hx => .inl hx, (HT2.out.trans hT3).mono (by simp)⟩
  · have hd : decide (serOk l) = false := by simpa using hser
    have RS : Hid (revR (G i).xs l = (10, (G i).xs)) := by
      show _ = _
      unfold revR
      rw [if_pos hser]
    rw [hd] at SE
    have HSE := Lib.hid SE
    clear SE hd hser h
    go_enter Try.func23, Try.ntmps23
    go_wp2_with fail
    refine HSE.out.mono ?_
    rintro e w1 ⟨rfl, hT1⟩
    go_wp2_with fail
    go_ret
    exact ⟨G, by rw [RS.out]; simp, HS.out.turn0 hT1, fun _ _ => rfl, by rw [RS.out], fun j x hx => .inl hx, hT1.mono (by simp)⟩
end Go.Proofs.Ytelagneielahhaa
