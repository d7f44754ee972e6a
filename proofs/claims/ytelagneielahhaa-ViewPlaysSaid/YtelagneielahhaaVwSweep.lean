/- A view's Sweep. -/
import Derived.Test.YtelagneielahhaaVwSuch
import Derived.Test.YtelagneielahhaaVwDrop
namespace Go.Proofs.Ytelagneielahhaa
open Go.RowKit Go.ChangeMaps Go.MapKept

/-- Who is swept. -/
def goneB (tick : Int) (rv : List Int) (x : En) : Bool := (x.down && decide (x.since ≤ tick - 64)) || (decide (x.c.2.2.1 ≤ tick) || decide (x.c.2.2.2 ∈ rv))
theorem enterSw (args : Array Value) (w : World) : (callFunc 40 args).run Try.prog w = .ok (.enter 40 args) w := by kernel_rfl
set_option maxRecDepth 100000 in
set_option maxHeartbeats 2000000 in
theorem sweep1_c (tb rb : Nat) (tick : Int) (p : Option Addr) (ls : Nat → List Int) (x : En) (w : World) (hL : LogsAre w (.pointer p) ls) (ht : w.cell? ⟨tb, 0, none⟩ = some (.int .i64 tick)) (hr : w.cell? ⟨rb, 0, none⟩ = some (.pointer p)) (htl : tb < w.heap.size) (hrl : rb < w.heap.size) (h0 : 0 ≤ tick) (h1 : tick ≤ 1073741824) :
    Calls Try.prog 40 #[ven x, .pointer (some ⟨tb, 0, none⟩), .pointer (some ⟨rb, 0, none⟩)] w fun e w' => e = .returned (.bool (goneB tick (catL ls 4) x)) ∧ Turn [] w w' := by
  obtain ⟨⟨x1, x2, x3, x4⟩, dn, hd, sn, ic⟩ := x
  have T0 := (Turn.refl [] w).alloc (.cells #[.int .i64 x1, .int .i64 x2, .int .i64 x3, .int .i64 x4, .bool dn, .int .i64 hd, .int .i64 sn, .int .i64 ic] 37)
  have BX := Blk.new w 37 #[.int .i64 x1, .int .i64 x2, .int .i64 x3, .int .i64 x4, .bool dn, .int .i64 hd, .int .i64 sn, .int .i64 ic]
  have EX := Lib.hid (fun wz => expired_c x1 x2 x3 x4 tick wz)
  have HS := Lib.hid (fun wz (hT : Turn [] w wz) => hasS_c (hL.turn hT) x4)
  have HBX := Lib.hid BX
  clear hL BX
  have HTC := Lib.hid ht
  have HRC := Lib.hid hr
  by_cases hl : dn = true ∧ sn ≤ tick - 64
  · obtain ⟨rfl, hl⟩ := hl
    have hv : Hid (goneB tick (catL ls 4) ⟨(x1, x2, x3, x4), true, hd, sn, ic⟩ = true) := by show _ = true; unfold goneB; simp [hl]
    unfold ven
    go_enter Try.func40, Try.ntmps40
    go_wp2_with fail
    go_ret
    exact ⟨by rw [hv.out]; simp, T0⟩
  · have hlate : Hid ((dn && decide (sn ≤ tick - 64)) = false) := by show _ = false; rw [Bool.and_eq_false_iff]; by_cases h2 : dn = true <;> simp_all
    by_cases hx : x3 ≤ tick
    · have hv : Hid (goneB tick (catL ls 4) ⟨(x1, x2, x3, x4), dn, hd, sn, ic⟩ = true) := by show _ = true; unfold goneB; simp [hx]
      have hd3 : decide (x3 ≤ tick) = true := by simpa using hx
      rw [hd3] at EX
      clear hx hd3
      unfold ven
      cases dn with
      | true =>
        have hns : ¬ sn ≤ tick - 64 := fun h => hl ⟨rfl, h⟩
        clear hl
        go_enter Try.func40, Try.ntmps40
        go_wp2_with fail
        refine (EX.out _).mono ?_
        rintro e w1 ⟨rfl, hT1⟩
        go_wp2_with fail
        go_ret
        exact ⟨by rw [hv.out]; simp, T0.trans hT1⟩
      | false =>
        clear hl
        go_enter Try.func40, Try.ntmps40
        go_wp2_with fail
        refine (EX.out _).mono ?_
        rintro e w1 ⟨rfl, hT1⟩
        go_wp2_with fail
        go_ret
        exact ⟨by rw [hv.out]; simp, T0.trans hT1⟩
    · have hv : Hid (goneB tick (catL ls 4) ⟨(x1, x2, x3, x4), dn, hd, sn, ic⟩ = decide (x4 ∈ catL ls 4)) := by show _ = _; unfold goneB; rw [hlate.out]; simp [hx]
      have hd3 : decide (x3 ≤ tick) = false := by simpa using hx
      rw [hd3] at EX
      clear hx hd3
      unfold ven
      cases dn with
      | true =>
        have hns : ¬ sn ≤ tick - 64 := fun h => hl ⟨rfl, h⟩
        clear hl
        go_enter Try.func40, Try.ntmps40
        go_wp2_with fail
        refine (EX.out _).mono ?_
        rintro e w1 ⟨rfl, hT1⟩
        have T1 := T0.trans hT1
        have BX1 := hT1.blk HBX.out (by simp)
        have y3 := BX1.cell 3
        have yl := BX1.lt
        have r1 := (T1.cell (p := ⟨rb, 0, none⟩) hrl (by simp)).trans HRC.out
        have rl1 := Nat.lt_of_lt_of_le hrl T1.size
        have HS1 := Lib.hid (HS.out _ T1)
        go_wp2_with fail
        refine HS1.out.mono ?_
        rintro e w2 ⟨rfl, hT2⟩
        generalize decide (x4 ∈ catL ls 4) = bb at *
        go_wp2_with fail
        go_ret
        exact ⟨by rw [hv.out]; simp, T1.trans hT2⟩
      | false =>
        clear hl
        go_enter Try.func40, Try.ntmps40
        go_wp2_with fail
        refine (EX.out _).mono ?_
        rintro e w1 ⟨rfl, hT1⟩
        have T1 := T0.trans hT1
        have BX1 := hT1.blk HBX.out (by simp)
        have y3 := BX1.cell 3
        have yl := BX1.lt
        have r1 := (T1.cell (p := ⟨rb, 0, none⟩) hrl (by simp)).trans HRC.out
        have rl1 := Nat.lt_of_lt_of_le hrl T1.size
        have HS1 := Lib.hid (HS.out _ T1)
        go_wp2_with fail
        refine HS1.out.mono ?_
        rintro e w2 ⟨rfl, hT2⟩
        generalize decide (x4 ∈ catL ls 4) = bb at *
        go_wp2_with fail
        go_ret
        exact ⟨by rw [hv.out]; simp, T1.trans hT2⟩

/-! ### plain: what is left -/
theorem swept_eq {m : VM} (hk : ∀ p ∈ m, p.2.c.1 = p.1) (hr : Rises m) (p : En → Bool) : dropM m ((suchL p (m.map (·.2))).map (·.1)) = m.filter (fun q => !p q.2) := by
  rw [dropM_eq]
  apply List.filter_congr
  intro q hq
  have : q.1 ∈ (suchL p (m.map (·.2))).map (·.1) ↔ p q.2 = true := by
    unfold suchL
    simp only [List.map_map, List.mem_map, List.mem_filter]
    constructor
    · rintro ⟨e, ⟨⟨q', hq', rfl⟩, hp⟩, he⟩
      have he' : q'.1 = q.1 := by rw [← hk q' hq']; exact he
      have h1 := kget_of_mem hr (k := q'.1) (v := q'.2) hq'
      have h2 := kget_of_mem hr (k := q.1) (v := q.2) hq
      rw [he', h2] at h1
      injection h1 with h1
      rw [h1]
      exact hp
    · intro hp
      exact ⟨q.2, ⟨⟨q, hq, rfl⟩, hp⟩, hk q hq⟩
  by_cases h : p q.2 = true
  · simp [this.2 h, h]
  · have h' : p q.2 = false := by simpa using h
    simp [mt this.1 h, h']
theorem suchL_mem {p : En → Bool} {m : VM} {c : C4} (h : c ∈ suchL p (m.map (·.2))) : ∃ q ∈ m, q.2.c = c ∧ p q.2 = true := by
  unfold suchL at h
  simp only [List.mem_map, List.mem_filter] at h
  obtain ⟨e, ⟨⟨q, hq, rfl⟩, hp⟩, rfl⟩ := h
  exact ⟨q, hq, rfl, hp⟩
theorem dropM_snoc (m : VM) (l : List Int) (x : Int) : dropM m (l ++ [x]) = kdel (dropM m l) x := by simp [dropM, List.foldl_append]

/-- What Sweep does. -/
def Swept (w : World) (v mb : Nat) (own : C4) (m : VM) (p : En → Bool) (e : Ending) (w' : World) : Prop :=
  ∃ A n c, e = .returned (.slice A n c) ∧ w'.ownsRow w.heap.size 29 4 (.slice A n c) n (ccs (suchL p (m.map (·.2)))) ∧ VIs w' v mb own (m.filter (fun q => !p q.2)) ∧ Turn [mb] w w'
set_option maxRecDepth 100000 in
set_option maxHeartbeats 4000000 in
theorem sweepV_c {w : World} {v mb : Nat} {own : C4} {m : VM} (h : VIs w v mb own m) (hok : VOk m) (tick : Int) (p : Option Addr) (ls : Nat → List Int) (hL : LogsAre w (.pointer p) ls) (h0 : 0 ≤ tick) (h1 : tick ≤ 1073741824) :
    Calls Try.prog 16 #[.pointer (some ⟨v, 0, none⟩), .int .i64 tick, .pointer p] w (Swept w v mb own m (goneB tick (catL ls 4))) := by
  have T0 : Turn [] w ((w.alloc (.cells #[.int .i64 tick] 3)).alloc (.cells #[.pointer p] 52)) := ((Turn.refl [] w).alloc _).alloc _
  have BT : Blk ((w.alloc (.cells #[.int .i64 tick] 3)).alloc (.cells #[.pointer p] 52)) w.heap.size 3 #[.int .i64 tick] := (Blk.new w 3 #[.int .i64 tick]).alloc _
  have BR : Blk ((w.alloc (.cells #[.int .i64 tick] 3)).alloc (.cells #[.pointer p] 52)) (w.heap.size + 1) 52 #[.pointer p] := by
    have := Blk.new (w.alloc (.cells #[.int .i64 tick] 3)) 52 #[.pointer p]
    simpa using this
  have HV0 := h.turn T0 (by simp) (by simp)
  have SC := Lib.hid (such_c HV0 hok.wf 40 #[.pointer (some ⟨w.heap.size, 0, none⟩), .pointer (some ⟨w.heap.size + 1, 0, none⟩)] (goneB tick (catL ls 4)) enterSw (fun x wz hT => by
    have BT2 := hT.blk BT (by simp)
    have BR2 := hT.blk BR (by simp)
    exact sweep1_c w.heap.size (w.heap.size + 1) tick p ls x wz (hL.turn (T0.trans hT)) (BT2.cell 0) (BR2.cell 0) BT2.lt BR2.lt h0 h1))
  have SE := Lib.hid (swept_eq hok.key h.rises (goneB tick (catL ls 4)))
  have HW : Hid (∀ c ∈ suchL (goneB tick (catL ls 4)) (m.map (·.2)), (Lit.int .i64 c.1).wf = true) := fun c hc => by
    obtain ⟨q, hq, rfl, -⟩ := suchL_mem hc
    exact (hok.right q hq).wf
  have hll : (suchL (goneB tick (catL ls 4)) (m.map (·.2))).length ≤ 16 := by
    have := suchL_len (goneB tick (catL ls 4)) (m.map (·.2))
    rw [List.length_map] at this
    have := h.le
    omega
  have HH := Lib.hid h
  have hlt := h.lts
  clear h hok hL HV0 BT BR
  unfold Swept
  generalize suchL (goneB tick (catL ls 4)) (m.map (·.2)) = cs at *
  go_enter Try.func16, Try.ntmps16
  go_wp2_with fail
  refine SC.out.mono ?_
  rintro e w1 ⟨A, c, rfl, oA, hT1⟩
  have HA := Lib.hid oA
  have T1 := T0.trans hT1
  have hz1 : w.heap.size + 2 ≤ w1.heap.size := by have := hT1.size; simpa using this
  have hAl := own_ltA oA
  have hAb : ∀ i ∈ blks A, i ≠ mb := fun i hi => by have := (hAl i hi).2; simp at this; omega
  have HAB := Lib.hid hAb
  have HT1 := Lib.hid T1
  clear oA hAl hAb hT1 T0 T1
  go_wp2_with fail
  go_loopw [15] (fun i wr => ∃ k : Nat, k ≤ cs.length ∧ i = .int .i64 k ∧ VIs wr v mb own (dropM m ((cs.take k).map (·.1))) ∧ Turn [mb] w1 wr) (fun i _ => cs.length - (intOf i).toNat)
  case atStart => exact ⟨0, Nat.zero_le _, rfl, HH.out.turn HT1.out (by simp) (by simp), Turn.refl _ _⟩
  case round =>
    obtain ⟨k, hk, rfl, hP, hT⟩ := hrel
    obtain ⟨wx, rfl⟩ : ∃ wo : World, wo = wr := ⟨_, rfl⟩
    have i0 : (0 : Int) ≤ (k : Int) := Int.natCast_nonneg _
    have hAx := own_turnA HA.out hT (fun i hi hm => HAB.out i hi (by simpa using hm))
    by_cases hlt2 : k < cs.length
    · have i1 : (k : Int) < (cs.length : Int) := by omega
      obtain ⟨b1, o1, rfl, l1, q0, q1, q2, q3⟩ := ccs_at (Sl.of_own hAx) hlt2
      have hstep : Hid (dropM m ((cs.take (k + 1)).map (·.1)) = kdel (dropM m ((cs.take k).map (·.1))) cs[k].1) := by
        show _ = _
        rw [List.take_succ_eq_append_getElem hlt2, List.map_append]
        exact dropM_snoc _ _ _
      have wf := HW.out cs[k] (List.getElem_mem hlt2)
      have HP := Lib.hid hP
      have hpl := hP.lts
      clear hP hAx
      generalize cs[k] = x at *
      obtain ⟨x1, x2, x3, x4⟩ := x
      simp only at q0 q1 q2 q3 wf
      have TX : Turn [] wx ((wx.alloc (.cells #[.int .i64 x1, .int .i64 x2, .int .i64 x3, .int .i64 x4] 29)).alloc (.cells #[.int .i64 x1] 3)) := ((Turn.refl [] wx).alloc _).alloc _
      have SX : Sl ((wx.alloc (.cells #[.int .i64 x1, .int .i64 x2, .int .i64 x3, .int .i64 x4] 29)).alloc (.cells #[.int .i64 x1] 3)) (some ⟨wx.heap.size + 1, 0, none⟩) (i64s [x1]) := by
        have := Sl.new (wx.alloc (.cells #[.int .i64 x1, .int .i64 x2, .int .i64 x3, .int .i64 x4] 29)) #[.int .i64 x1] 3
        simpa [i64s] using this
      have DC := Lib.hid (dropV_c (HP.out.turn TX (by simp) (by simp)) (some ⟨wx.heap.size + 1, 0, none⟩) 1 1 [x1] SX rfl (by omega) (fun _ i hi => by simp [blks] at hi; omega) (fun x hx => by simp at hx; subst hx; exact wf))
      clear SX
      go_wp2_with fail
      refine DC.out.mono ?_
      rintro e w2 ⟨rfl, V2, hT2⟩
      have HV2 := Lib.hid V2
      have HT2 := Lib.hid ((hT.trans (TX.mono (by simp))).trans hT2)
      clear V2 hT2
      go_wp2_with fail
      go_roundw
      case rel => exact ⟨k + 1, by omega, by go_num, by rw [hstep.out]; exact HV2.out, HT2.out⟩
      case measure => simp [intOf]; omega
    · obtain rfl : k = cs.length := by omega
      have i1 : ¬ (cs.length : Int) < (cs.length : Int) := by omega
      rw [List.take_length] at hP
      have HP := Lib.hid hP
      have HX := Lib.hid hAx
      rw [SE.out] at HP
      clear hP hAx
      generalize hcl : cs.length = nn at *
      have HCL := Lib.hid hcl
      clear hcl
      go_wp2_with fail
      go_ret
      exact ⟨A, nn, c, by simp, own_down HX.out (by simp; omega), HP.out, (HT1.out.mono (by simp)).trans hT⟩
end Go.Proofs.Ytelagneielahhaa
