/- The walk of NetHeals. -/
import Derived.Test.YtiijgokgojjocaaNetTells
import Derived.Test.YtiijgokgojjocaaNetCut
namespace Go.Proofs.Ytiijgokgojjocaa
open Go.RowKit Go.ChangeMaps Go.WideMaps Go.MapKept Go.WideShapes Srt

theorem pairOf_comm (a b : Int) : pairOf a b = pairOf b a := by
  unfold pairOf
  rw [Int.min_comm, Int.max_comm]
theorem send_cut {cut : List (Int × Int)} {r : Rl} {s tick fr : Int} {l : Lt} {n : Nat} (h : pairOf fr l.dst ∈ cut) : sendAll cut r tick fr n s [l] = ([], s, 1) := by
  unfold sendAll sendStep fate
  simp [h]

section
variable {w w' : World} {g d cb kb : Nat} {s : Int} {cut : List (Int × Int)} {came : List ((Int × Int) × Int)} {base : Nat} {A : Option Addr} {n cap : Nat} {ms : List Ml} {sent lost told : Int}
/-- One letter is sent, and put. -/
def Sent1 (w : World) (g d cb kb : Nat) (cut : List (Int × Int)) (came : List ((Int × Int) × Int)) (base : Nat) (A : Option Addr) (n : Nat) (ms : List Ml) (sent lost told tick fr dst : Int) (xs : List Int) (e : Ending) (w' : World) : Prop :=
  e = .returned (.int .i64 1) ∧ ∃ m A' cap' s', m.pure = (tick + 1, fr, dst, xs) ∧ NetIs w' g d cb kb s' ⟨0, 0, 0, 1⟩ cut came base A' (n + 1) cap' (ms ++ [m]) (sent + 1) lost told ∧ Turn (g :: d :: blks A) w w' ∧ (∀ i ∈ blks A', i ∈ blks A ∨ w.heap.size ≤ i)
/-- One letter is sent, and lost. -/
def Sent0 (w : World) (g d cb kb : Nat) (cut : List (Int × Int)) (came : List ((Int × Int) × Int)) (base : Nat) (A : Option Addr) (n : Nat) (ms : List Ml) (sent lost told : Int) (e : Ending) (w' : World) : Prop :=
  e = .returned (.int .i64 0) ∧ ∃ A' cap' s', NetIs w' g d cb kb s' ⟨0, 0, 0, 1⟩ cut came base A' n cap' ms (sent + 1) (lost + 1) told ∧ Turn (g :: d :: blks A) w w' ∧ (∀ i ∈ blks A', i ∈ blks A ∨ w.heap.size ≤ i)
theorem lt_one (N : NetIs w g d cb kb s ⟨0, 0, 0, 1⟩ cut came base A n cap ms sent lost told) (dst : Int) (B : Option Addr) (nb c : Nat) (xs : List Int) (hdst : wf64 dst) (hsl : Sl w B (u8s xs)) (hlen : xs.length = nb) (hnb : nb ≤ 1000000) (hoff : xs ≠ [] → ∀ i ∈ blks B, i ≠ g ∧ i ≠ d ∧ i ∉ blks A) :
    LtOk (w.alloc (.cells #[.int .i64 dst, .slice B nb c] 29)) g d A (some ⟨w.heap.size, 0, none⟩) [⟨dst, B, nb, c, xs⟩] := by
  have hlts := N.lts
  have hA := own_ltA N.row
  have SB : Sl (w.alloc (.cells #[.int .i64 dst, .slice B nb c] 29)) (some ⟨w.heap.size, 0, none⟩) (lcs [⟨dst, B, nb, c, xs⟩]) := by
    have := Sl.new w #[.int .i64 dst, .slice B nb c] 29
    simpa [lcs, lcell] using this
  exact ⟨SB, fun _ j hj => by simp [blks] at hj; subst hj; exact ⟨by omega, by omega, fun hm => by have := (hA _ hm).1; omega⟩, fun l hl => by
    simp at hl
    subst hl
    exact ⟨hsl.alloc _, hlen, hnb, hdst, hoff⟩⟩
theorem sent_one_c (N : NetIs w g d cb kb s ⟨0, 0, 0, 1⟩ cut came base A n cap ms sent lost told) (tick fr dst : Int) (B : Option Addr) (nb c : Nat) (xs : List Int) (ht0 : 0 ≤ tick) (ht1 : tick ≤ 1073741824) (hfr : wf64 fr) (hdst : wf64 dst) (hsl : Sl w B (u8s xs)) (hlen : xs.length = nb) (hnb : nb ≤ 1000000) (hoff : xs ≠ [] → ∀ i ∈ blks B, i ≠ g ∧ i ≠ d ∧ i ∉ blks A)
    (hs0 : 0 ≤ sent) (hs1 : sent ≤ 1000000000) (ho0 : 0 ≤ lost) (ho1 : lost ≤ 1000000000) (hc : pairOf fr dst ∉ cut) (hn : n < 2048) :
    Calls Try.prog 9 #[.pointer (some ⟨g, 0, none⟩), .int .i64 tick, .int .i64 fr, .slice (some ⟨w.heap.size, 0, none⟩) 1 1] (w.alloc (.cells #[.int .i64 dst, .slice B nb c] 29)) (Sent1 w g d cb kb cut came base A n ms sent lost told tick fr dst xs) := by
  have T := (Turn.refl [] w).alloc (.cells #[.int .i64 dst, .slice B nb c] 29)
  obtain ⟨s', hso⟩ : ∃ s', sendAll cut ⟨0, 0, 0, 1⟩ tick fr n s [⟨dst, B, nb, c, xs⟩] = ([(tick + 1, fr, dst, xs)], s', 0) := ⟨_, send_one hc hn⟩
  refine (send_c (N.turn T (by simp)) tick fr _ 1 1 [⟨dst, B, nb, c, xs⟩] ht0 ht1 hfr (lt_one N dst B nb c xs hdst hsl hlen hnb hoff) rfl (by omega) hs0 hs1 ho0 ho1).mono ?_
  rintro e w4 ⟨ms', rfl, A', cap', N4, hpu, hT4, hA4, -⟩
  simp only [List.length_cons, List.length_nil, List.take_of_length_le (show ([⟨dst, B, nb, c, xs⟩] : List Lt).length ≤ 0 + 1 by simp)] at N4 hpu
  rw [hso] at N4 hpu
  simp only at N4 hpu
  obtain ⟨m, rfl, hm⟩ := List.map_eq_singleton_iff.1 hpu
  refine ⟨by simp, m, A', cap', s', hm, by simpa using N4, (T.mono (by simp)).trans hT4, fun i hi => ?_⟩
  rcases hA4 i hi with h | h
  · exact .inl h
  · exact .inr (by simp at h; omega)
theorem sent_none_c (N : NetIs w g d cb kb s ⟨0, 0, 0, 1⟩ cut came base A n cap ms sent lost told) (tick fr dst : Int) (B : Option Addr) (nb c : Nat) (xs : List Int) (ht0 : 0 ≤ tick) (ht1 : tick ≤ 1073741824) (hfr : wf64 fr) (hdst : wf64 dst) (hsl : Sl w B (u8s xs)) (hlen : xs.length = nb) (hnb : nb ≤ 1000000) (hoff : xs ≠ [] → ∀ i ∈ blks B, i ≠ g ∧ i ≠ d ∧ i ∉ blks A)
    (hs0 : 0 ≤ sent) (hs1 : sent ≤ 1000000000) (ho0 : 0 ≤ lost) (ho1 : lost ≤ 1000000000) (hc : pairOf fr dst ∈ cut) :
    Calls Try.prog 9 #[.pointer (some ⟨g, 0, none⟩), .int .i64 tick, .int .i64 fr, .slice (some ⟨w.heap.size, 0, none⟩) 1 1] (w.alloc (.cells #[.int .i64 dst, .slice B nb c] 29)) (Sent0 w g d cb kb cut came base A n ms sent lost told) := by
  have T := (Turn.refl [] w).alloc (.cells #[.int .i64 dst, .slice B nb c] 29)
  obtain ⟨s', hso⟩ : ∃ s', sendAll cut ⟨0, 0, 0, 1⟩ tick fr n s [⟨dst, B, nb, c, xs⟩] = ([], s', 1) := ⟨_, send_cut hc⟩
  refine (send_c (N.turn T (by simp)) tick fr _ 1 1 [⟨dst, B, nb, c, xs⟩] ht0 ht1 hfr (lt_one N dst B nb c xs hdst hsl hlen hnb hoff) rfl (by omega) hs0 hs1 ho0 ho1).mono ?_
  rintro e w4 ⟨ms', rfl, A', cap', N4, hpu, hT4, hA4, -⟩
  simp only [List.length_cons, List.length_nil, List.take_of_length_le (show ([⟨dst, B, nb, c, xs⟩] : List Lt).length ≤ 0 + 1 by simp)] at N4 hpu
  rw [hso] at N4 hpu
  simp only at N4 hpu
  obtain rfl : ms' = [] := List.map_eq_nil_iff.1 hpu
  refine ⟨by simp, A', cap', s', by simpa using N4, (T.mono (by simp)).trans hT4, fun i hi => ?_⟩
  rcases hA4 i hi with h | h
  · exact .inl h
  · exact .inr (by simp at h; omega)
end

theorem hturn_send {W0 w1 w2 : World} {g d cb : Nat} {A A1 : Option Addr} (h : Turn (g :: d :: cb :: blks A) W0 w1) (hA : ∀ i ∈ blks A1, i ∈ blks A ∨ W0.heap.size ≤ i) (k : Turn (g :: d :: blks A1) w1 w2) : Turn (g :: d :: cb :: blks A) W0 w2 :=
  h.andThen k (fun j hj => by
    simp at hj
    rcases hj with hj | hj | hj
    · simp [hj]
    · simp [hj]
    · rcases hA j hj with h1 | h1
      · simp [h1]
      · exact .inr h1)
theorem hturn_cut {W0 w1 w2 : World} {g d cb : Nat} {A : Option Addr} (h : Turn (g :: d :: cb :: blks A) W0 w1) (k : Turn [cb] w1 w2) : Turn (g :: d :: cb :: blks A) W0 w2 :=
  h.andThen k (fun j hj => by simp at hj; simp [hj])
theorem ha_next {W0 w1 : World} {S : List Nat} {A A1 A2 : Option Addr} (h : Turn S W0 w1) (hA : ∀ i ∈ blks A1, i ∈ blks A ∨ W0.heap.size ≤ i) (hA2 : ∀ i ∈ blks A2, i ∈ blks A1 ∨ w1.heap.size ≤ i) : ∀ i ∈ blks A2, i ∈ blks A ∨ W0.heap.size ≤ i := fun i hi => by
  rcases hA2 i hi with h1 | h1
  · exact hA i h1
  · exact .inr (by have := h.size; omega)
/-- Where NetHeals stands behind i letters. -/
structure HRel (w : World) (g d cb kb base : Nat) (i n2 : Nat) (s : Int) (A : Option Addr) (cap : Nat) (ms : List Ml) (sent lost : Int) (wr : World) : Prop where
  net : NetIs wr g d cb kb s ⟨0, 0, 0, 1⟩ [] [] base A n2 cap ms sent lost 0
  n2i : n2 = 2 * i
  due : ∀ m ∈ ms, m.due ≤ 12
  sent0 : 0 ≤ sent ∧ sent ≤ 1000 * i
  lost0 : 0 ≤ lost ∧ lost ≤ 1000 * i
  turn : Turn [] w wr

theorem HRel.next {w wx W0 w8 : World} {g d cb kb base i n2 : Nat} {s s4 : Int} {A A4 : Option Addr} {cap cap4 : Nat} {ms : List Ml} {sent lost fr dst fr' dst' : Int} {xs xs' : List Int} {m1 m2 : Ml} (R : HRel w g d cb kb base i n2 s A cap ms sent lost wx)
    (hlo : w.heap.size ≤ g ∧ w.heap.size ≤ d ∧ w.heap.size ≤ cb ∧ w.heap.size ≤ kb ∧ w.heap.size ≤ base) (hi : i < 12) (h1 : m1.pure = ((i : Int) + 1, fr, dst, xs)) (h2 : m2.pure = ((i : Int) + 1, fr', dst', xs'))
    (N : NetIs w8 g d cb kb s4 ⟨0, 0, 0, 1⟩ [] [] base A4 (n2 + 1 + 1) cap4 (ms ++ [m1] ++ [m2]) (sent + 1 + 1 + 1 + 1) (lost + 1 + 1) 0) (hW : Turn [] w W0) (hT : Turn (g :: d :: cb :: blks A) W0 w8) (hz : wx.heap.size < W0.heap.size) :
    HRel w g d cb kb base (i + 1) (n2 + 2) s4 A4 cap4 (ms ++ [m1] ++ [m2]) (sent + 1 + 1 + 1 + 1) (lost + 1 + 1) w8 := by
  have e1 : m1.due = (i : Int) + 1 := congrArg (fun p : PMl => p.1) h1
  have e2 : m2.due = (i : Int) + 1 := congrArg (fun p : PMl => p.1) h2
  have hs := R.sent0
  have hl := R.lost0
  have hA := own_ltA R.net.row
  refine ⟨N, by have := R.n2i; omega, fun m hm => ?_, by push_cast; omega, by push_cast; omega, hW.andThen hT (fun j hj => ?_)⟩
  · simp only [List.mem_append, List.mem_singleton] at hm
    rcases hm with (hm | rfl) | rfl
    · exact R.due m hm
    · omega
    · omega
  · simp at hj
    rcases hj with rfl | rfl | rfl | hj
    · exact .inr hlo.1
    · exact .inr hlo.2.1
    · exact .inr hlo.2.2.1
    · exact .inr (by have := (hA j hj).2; omega)

set_option maxRecDepth 100000 in
set_option maxHeartbeats 8000000 in
theorem nheals_walk (s0 a b : Int) (A0 : Option Addr) (len cap0 : Nat) (L : Nat → Bs) (w : World) (hl : Letters w A0 len L) (hlen : len ≤ maxLen) (ha : wf64 a) (hb : wf64 b) :
    Calls Try.prog 5 #[.int .u64 s0, .slice A0 len cap0, .int .i64 a, .int .i64 b] w fun e w' => e = .returned (.bool true) ∧ Turn [] w w' := by
  have KC := Lib.hid (fun wz => known_c wz)
  have HL := Lib.hid hl
  unfold maxLen at hlen
  obtain ⟨iB, hiB, hzB⟩ := elemB.info
  have HD := fun (w : World) a n c k h h0 h1 => run_slice_head Try.underlying26 hiB w a n c k h h0 h1
  have WF := Lib.hid (And.intro ha hb)
  clear hiB hzB hl ha hb
  by_cases hab : a = b
  · have h1 : (a == b) = true := by simpa using hab
    have HAB := Lib.hid hab
    clear hab
    go_enter Try.func5, Try.ntmps5
    go_wp2_with fail
    refine (newN_c s0 w).mono ?_
    rintro e w1 ⟨g, d, cb, kb, base, rfl, N1, hlo, hT1⟩
    have HN1 := Lib.hid N1
    clear N1
    go_wp2_with fail
    refine (KC.out _).mono ?_
    rintro e w2 ⟨rfl, hT2⟩
    have N2 := HN1.out.turn hT2 (by simp)
    have CU := Lib.hid (cut_c N2 a b WF.out.1 WF.out.2)
    have CR := Lib.hid (show cutRes [] a b = (1, []) by unfold cutRes; rw [if_pos HAB.out])
    clear N2
    go_wp2_with fail
    refine CU.out.mono ?_
    rintro e w3 ⟨he, -, hT3⟩
    rw [CR.out] at he
    simp only at he
    subst he
    have TT := (hT1.trans hT2).andThen hT3 (fun j hj => by simp at hj; subst hj; exact .inr hlo.2.2.1)
    go_wp2_with fail
    go_ret
    exact ⟨by simp, TT⟩
  · have h1 : (a == b) = false := by simpa using hab
    have HAB := Lib.hid hab
    clear hab
    go_enter Try.func5, Try.ntmps5
    go_wp2_with fail
    refine (newN_c s0 w).mono ?_
    rintro e w1 ⟨g, d, cb, kb, base, rfl, N1, hlo, hT1⟩
    have HN1 := Lib.hid N1
    have hlow := N1.low
    have hap := N1.apart
    clear N1
    go_upto_block 0 with fail
    go_cut [10] (fun x wc => ∃ i n2 s A cap ms sent lost, x = .int .i64 ((n2 : Nat) : Int) ∧ i ≤ 12 ∧ HRel w g d cb kb base i n2 s A cap ms sent lost wc)
    case first =>
      go_wp2_with fail
      go_loopw [10, 11] (fun x ix wr => ∃ i n2 s A cap ms sent lost, i ≤ 12 ∧ i ≤ len ∧ ix = .int .i64 ((i : Nat) : Int) ∧ x = .int .i64 ((n2 : Nat) : Int) ∧ HRel w g d cb kb base i n2 s A cap ms sent lost wr) (fun _ i _ => 12 - (intOf i).toNat)
      case atStart => exact ⟨0, 0, s0, none, 0, [], 0, 0, by omega, by omega, rfl, rfl, ⟨HN1.out, rfl, by simp, by simp, by simp, hT1⟩⟩
      case round =>
        obtain ⟨i, n2, s, A, cap, ms, sent, lost, hk12, hk, rfl, rfl, R⟩ := hrel
        obtain ⟨wx, rfl⟩ : ∃ wo : World, wo = wr := ⟨_, rfl⟩
        have i0 : (0 : Int) ≤ (i : Int) := Int.natCast_nonneg _
        have n0 : (0 : Int) ≤ (n2 : Int) := Int.natCast_nonneg _
        have hn2 : (n2 : Int) ≤ 24 := by have := R.n2i; omega
        have hst := R.sent0
        have hls := R.lost0
        by_cases hgo : i < len ∧ i < 12
        · obtain ⟨hlt, hlt12⟩ := hgo
          have i1 : (i : Int) < (len : Int) := by omega
          have i2 : (i : Int) < 12 := by omega
          obtain ⟨bl, off, rfl, hbl, hcell⟩ := HL.out (by omega)
          obtain ⟨cc, hs, hc1, hc2⟩ := hcell i hlt
          have dc := (R.turn.cell (p := ⟨bl, off + i, none⟩) hbl (by simp)).trans cc
          have hIs := hs.cut 60
          have HLT := Lib.hid hIs.lt
          have HIS := Lib.hid (hIs.turn0 R.turn)
          have RR := Lib.hid R
          have hbl1 := Nat.lt_of_lt_of_le hbl R.turn.size
          obtain ⟨bk, hbk⟩ : ∃ b, b = L i := ⟨_, rfl⟩
          rw [← hbk] at dc HIS HLT hc1 hc2
          obtain ⟨bA, bn, bc, bxs⟩ := bk
          have HSL : Hid (Sl wx bA (u8s (bxs.take 60))) := HIS.out.sl
          have HLN : Hid ((bxs.take 60).length = min bn 60) := HIS.out.len
          have HLT2 : Hid (bxs.take 60 ≠ [] → ∀ i ∈ blks bA, i < w.heap.size) := HLT.out
          simp only at dc hc1 hc2
          unfold maxLen at hc2
          have hif : (if (60 : Int) < (bn : Int) then (60 : Int) else (bn : Int)) = ((min bn 60 : Nat) : Int) := by split <;> omega
          have hm1 : min bn 60 ≤ bc := by omega
          have hm2 : min bn 60 ≤ 60 := by omega
          clear cc hcell hs R hIs hbk HIS HLT
          generalize min bn 60 = m at *
          generalize bxs.take 60 = ys at *
          have j0 : (0 : Int) ≤ (m : Int) := Int.natCast_nonneg _
          have j1 : (m : Int) ≤ (bc : Int) := by omega
          have zx := RR.out.turn.size
          have hnew := World.new_ne wx ⟨bl, off + i, none⟩ dc
          go_wp2_with fail
          go_region_held3 (fun w' => w'.cell? ⟨bl, off + i, none⟩ = some (.slice bA bn bc)) (go_keep) (fail)
          all_goals
            have hA := own_ltA RR.out.net.row
            have hlts := RR.out.net.lts
            have T0 : Turn [] wx (wx.alloc (.cells #[.int .i64 b, .slice bA m bc] 29)).drew := ((Turn.refl [] wx).alloc _).drew
            have BX : Blk (wx.alloc (.cells #[.int .i64 b, .slice bA m bc] 29)).drew wx.heap.size 29 #[.int .i64 b, .slice bA m bc] := (Turn.refl [] _).drew.blk (Blk.new wx 29 #[.int .i64 b, .slice bA m bc]) (by simp)
            have HS0 : ys ≠ [] → ∀ i ∈ blks bA, i < w.heap.size := HLT2.out
            have hN0 := RR.out.net.turn T0 (by simp)
            have hSl0 := HSL.out.turn0 T0
            have TS := Turn.refl (g :: d :: cb :: blks A) (wx.alloc (.cells #[.int .i64 b, .slice bA m bc] 29)).drew
            have S1 := sent_one_c hN0 i a b bA m bc ys (by omega) (by omega) WF.out.1 WF.out.2 hSl0 HLN.out (by omega) (fun hne j hj => by
              have h1 := HS0 hne j hj
              exact ⟨by omega, by omega, fun hm => by have := (hA j hm).2; omega⟩) (by omega) (by omega) (by omega) (by omega) (by simp) (by omega)
            have HS1 := Lib.hid S1
            have hz0 : wx.heap.size < (wx.alloc (.cells #[.int .i64 b, .slice bA m bc] 29)).drew.heap.size := by simp
            generalize hW0 : (wx.alloc (.cells #[.int .i64 b, .slice bA m bc] 29)).drew = W0 at *
            have HW0 := Lib.hid hW0
            have BX' := Lib.hid BX
            have HSOFF : Hid (∀ wz Aj, Turn (g :: d :: cb :: blks A) W0 wz → (∀ i ∈ blks Aj, i ∈ blks A ∨ W0.heap.size ≤ i) → Sl wz bA (u8s ys) ∧ (ys ≠ [] → ∀ i ∈ blks bA, i ≠ g ∧ i ≠ d ∧ i ∉ blks Aj) ∧ Blk wz wx.heap.size 29 #[.int .i64 b, .slice bA m bc]) := fun wz Aj hT hAj => by
              refine ⟨hSl0.turnP hT (fun hne j hj hm => ?_), fun hne j hj => ?_, hT.blk BX (fun hm => ?_)⟩
              · have h1 := HS0 (fun e => hne (by rw [e]; rfl)) j hj
                simp at hm
                rcases hm with hm | hm | hm | hm
                · omega
                · omega
                · omega
                · have := (hA j hm).2; omega
              · have h1 := HS0 hne j hj
                refine ⟨by omega, by omega, fun hm => ?_⟩
                rcases hAj j hm with h2 | h2
                · have := (hA j h2).2; omega
                · omega
              · simp at hm
                rcases hm with hm | hm | hm | hm
                · omega
                · omega
                · omega
                · have := (hA _ hm).1; omega
            have CR := Lib.hid (show cutRes [] b a = (0, [pairOf b a]) by unfold cutRes; rw [if_neg (fun e => HAB.out e.symm)]; simp)
            have hTW : Turn [] w W0 := RR.out.turn.trans T0
            have HTW := Lib.hid hTW
            have HA := Lib.hid hA
            have y0 := BX'.out.cell 0
            have y1 := BX'.out.cell 1
            have yl := BX'.out.lt
            clear S1 hW0 BX hSl0 hN0 T0 hTW hA hnew dc HSL HLT2
            go_wp2_with fail
            refine HS1.out.mono ?_
            rintro e w3 ⟨rfl, m1, A1, cap1, s1, hm1, N3, T23, hA1⟩
            have TT3 := Lib.hid (hturn_send TS (fun i hi => .inl hi) T23)
            have HA1 := Lib.hid (ha_next TS (fun i hi => .inl hi) hA1)
            have HM1 := Lib.hid hm1
            have CU := Lib.hid (cut_c N3 b a WF.out.2 WF.out.1)
            clear N3 T23 hA1 hm1
            go_wp2_with fail
            refine CU.out.mono ?_
            rintro e w4 ⟨he, N4, T34⟩
            rw [CR.out] at he N4
            simp only at he N4
            subst he
            have TT4 := Lib.hid (hturn_cut TT3.out T34)
            obtain ⟨sl4, of4, bx4⟩ := HSOFF.out w4 A1 TT4.out HA1.out
            have S2 := Lib.hid (sent_none_c N4 i a b bA m bc ys (by omega) (by omega) WF.out.1 WF.out.2 sl4 HLN.out (by omega) of4 (by omega) (by omega) (by omega) (by omega) (by rw [pairOf_comm]; simp))
            have x0 := bx4.cell 0
            have x1 := bx4.cell 1
            have xl := bx4.lt
            clear N4 T34 sl4 of4 bx4
            go_wp2_with fail
            refine S2.out.mono ?_
            rintro e w5 ⟨rfl, A2, cap2, s2, N5, T45, hA2⟩
            have TT5 := Lib.hid (hturn_send TT4.out HA1.out T45)
            have HA2 := Lib.hid (ha_next TT4.out HA1.out hA2)
            have S3 := Lib.hid (sent_none_c N5 i b a none 0 0 [] (by omega) (by omega) WF.out.2 WF.out.1 (Sl.nil _ _) rfl (by omega) (fun h => absurd rfl h) (by omega) (by omega) (by omega) (by omega) (by simp))
            clear N5 T45 hA2 x0 x1 xl
            go_wp2_with fail
            refine S3.out.mono ?_
            rintro e w6 ⟨rfl, A3, cap3, s3, N6, T56, hA3⟩
            have TT6 := Lib.hid (hturn_send TT5.out HA2.out T56)
            have HA3 := Lib.hid (ha_next TT5.out HA2.out hA3)
            have HE := Lib.hid (heal_c N6)
            clear N6 T56 hA3
            go_wp2_with fail
            refine HE.out.mono ?_
            rintro e w7 ⟨rfl, N7, T67⟩
            have TT7 := Lib.hid (hturn_cut TT6.out T67)
            obtain ⟨sl7, of7, bx7⟩ := HSOFF.out w7 A3 TT7.out HA3.out
            have S4 := Lib.hid (sent_one_c N7 i a b bA m bc ys (by omega) (by omega) WF.out.1 WF.out.2 sl7 HLN.out (by omega) of7 (by omega) (by omega) (by omega) (by omega) (by simp) (by omega))
            have x0 := bx7.cell 0
            have x1 := bx7.cell 1
            have xl := bx7.lt
            clear N7 T67 sl7 of7 bx7
            go_wp2_with fail
            refine S4.out.mono ?_
            rintro e w8 ⟨rfl, m2, A4, cap4, s4, hm2, N8, T78, hA4⟩
            have TT8 := Lib.hid (hturn_send TT7.out HA3.out T78)
            have R8 := Lib.hid (HRel.next RR.out hlo hlt12 HM1.out hm2 N8 HTW.out TT8.out hz0)
            clear N8 T78 hA4 hm2 x0 x1 xl
            go_wp2_with fail
            go_roundw
            case rel => exact ⟨i + 1, n2 + 2, s4, A4, cap4, ms ++ [m1] ++ [m2], _, _, by omega, by omega, by go_num, by go_num, R8.out⟩
            case measure => simp [intOf]; omega
        · by_cases hlt : i < len
          · have i1 : (i : Int) < (len : Int) := by omega
            have i2 : ¬ (i : Int) < 12 := by omega
            have RR := Lib.hid R
            clear R
            go_wp2_with fail
            go_meet
            case rel => exact ⟨i, n2, s, A, cap, ms, sent, lost, rfl, hk12, RR.out⟩
          · have i1 : ¬ (i : Int) < (len : Int) := by omega
            have RR := Lib.hid R
            clear R
            go_wp2_with fail
            go_meet
            case rel => exact ⟨i, n2, s, A, cap, ms, sent, lost, rfl, hk12, RR.out⟩
    case rest =>
      obtain ⟨i, n2, s, A, cap, ms, sent, lost, rfl, hk12, R⟩ := hcut
      generalize hwc : wc = wd at *
      clear hwc
      have n0 : (0 : Int) ≤ (n2 : Int) := Int.natCast_nonneg _
      have hf : ms.filter (isDue 20) = ms := by
        rw [List.filter_eq_self]
        intro m hm
        have := R.due m hm
        simp [isDue]
        omega
      have HF := Lib.hid hf
      have hml := R.net.len
      have HML := Lib.hid hml
      have RR := Lib.hid R
      have HA := Lib.hid (own_ltA R.net.row)
      clear R hf hml
      go_wp2_with fail
      refine (KC.out _).mono ?_
      rintro e w2 ⟨rfl, hT2⟩
      have N2 := RR.out.net.turn hT2 (by simp)
      have DU := Lib.hid (dueN_c N2 20 (by simp) 0 CameOk.nil (by omega) (by omega) (by omega))
      clear N2
      go_wp2_with fail
      refine DU.out.mono ?_
      rintro e w3 ⟨O, co, n5, cap5, rfl, -, -, -, hT3⟩
      rw [HF.out, HML.out]
      have TT := (RR.out.turn.trans hT2).andThen hT3 (fun j hj => by
        simp at hj
        rcases hj with rfl | rfl | hj
        · exact .inr hlo.1
        · exact .inr hlo.2.2.2.1
        · exact .inr (by have := (HA.out j hj).2; omega))
      go_wp2_with fail
      go_ret
      exact ⟨by simp, TT⟩
end Go.Proofs.Ytiijgokgojjocaa
