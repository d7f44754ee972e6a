/- The walk of ViewHolds. -/
import Derived.Test.YtelagneielahhaaVwHoldsP
import Derived.Test.YtelagneielahhaaVwOrder
import Derived.Test.YtelagneielahhaaVwRev
namespace Go.Proofs.Ytelagneielahhaa
open Go.RowKit Go.ChangeMaps Go.MapKept

/-- Where ViewHolds stands. -/
structure HoRel (w : World) (v mb s : Nat) (G : Nat → Lg) (m : VM) (wr : World) : Prop where
  view : VIs wr v mb (5, 0, 0, 1) m
  ok : VOk m
  since : SinceOk m
  set : SIs wr s G
  apart : ∀ j, j < 4 → ∀ x ∈ blks (G j).A, x ≠ mb
  lows : w.heap.size ≤ v ∧ w.heap.size ≤ mb ∧ w.heap.size ≤ s ∧ s ≠ mb ∧ s ≠ v
  turn : Turn [] w wr
theorem HoRel.turn0 {w wr wz : World} {v mb s : Nat} {G : Nat → Lg} {m : VM} (h : HoRel w v mb s G m wr) (hT : Turn [] wr wz) : HoRel w v mb s G m wz :=
  ⟨h.view.turn hT (by simp) (by simp), h.ok, h.since, h.set.turn0 hT, h.apart, h.lows, h.turn.trans hT⟩
/-- The view has turned. -/
theorem HoRel.view' {w wr wz : World} {v mb s : Nat} {G : Nat → Lg} {m m' : VM} (h : HoRel w v mb s G m wr) (hV : VIs wz v mb (5, 0, 0, 1) m') (hok : VOk m') (hs : SinceOk m') (hT : Turn [mb] wr wz) : HoRel w v mb s G m' wz :=
  ⟨hV, hok, hs, h.set.turn hT (by simpa using h.lows.2.2.2.1) (fun i hi j hj hm => h.apart i hi j hj (by simpa using hm)), h.apart, h.lows, h.turn.andThen hT (fun j hj => by simp at hj; subst hj; exact .inr h.lows.2.1)⟩
/-- The set has turned. -/
theorem HoRel.set' {w wr wz : World} {v mb s : Nat} {G G' : Nat → Lg} {m : VM} (h : HoRel w v mb s G m wr) (hS : SIs wz s G') (hb : ∀ j, ∀ x ∈ blks (G' j).A, x ∈ blks (G j).A ∨ wr.heap.size ≤ x) (hT : Turn [s] wr wz) : HoRel w v mb s G' m wz :=
  ⟨h.view.turn hT (by simpa using Ne.symm h.lows.2.2.2.2) (by simpa using Ne.symm h.lows.2.2.2.1), h.ok, h.since, hS, fun j hj x hx => by
    rcases hb j x hx with h1 | h1
    · exact h.apart j hj x h1
    · have := h.view.lts.2; omega, h.lows, h.turn.andThen hT (fun j hj => by simp at hj; subst hj; exact .inr h.lows.2.2.1)⟩
theorem find_some {m : VM} {k : Int} {e : En} (h : kget m k = some e) : (kget m k).getD en0 = e ∧ findE m k = 0 := by simp [findE, h]

set_option maxRecDepth 100000 in
set_option maxHeartbeats 16000000 in
theorem vholds_walk (A0 : Option Addr) (len cap0 : Nat) (F : Nat → Nat → Int) (tk : Int) (w : World) (hR : Rows w A0 len 7 F) (hlen : len ≤ maxLen) :
    Calls Try.prog 5 #[.slice A0 len cap0, .int .i64 tk] w fun e w' => e = .returned (.bool true) ∧ Turn [] w w' := by
  have KC := Lib.hid (fun wz => known_c wz)
  unfold maxLen at hlen
  have htk := umod_range tk 1073741825 (by omega) (by omega)
  have HR := Lib.hid hR
  clear hR
  go_enter Try.func5, Try.ntmps5
  go_wp2_with fail
  refine (newV_c 5 0 0 1 w (by unfold Right; simp)).mono ?_
  rintro e w1 ⟨v, mb, rfl, V1, hv1, hb1, hT1⟩
  have HV1 := Lib.hid V1
  have hl1 := V1.lts
  clear V1
  go_wp2_with fail
  refine (newS_c w1).mono ?_
  rintro e w2 ⟨s, rfl, S2, hs2, hT2⟩
  have R0 : HoRel w v mb s (fun _ => ⟨none, 0, 0, []⟩) [] w2 := ⟨HV1.out.turn hT2 (by simp) (by simp), VOk.nil, by intro p hp; simp at hp, S2, by simp [blks], ⟨hv1, hb1, by have := hT1.size; omega, by omega, by omega⟩, hT1.trans hT2⟩
  have HR0 := Lib.hid R0
  clear S2 HV1 hT1 hT2 R0
  go_upto_block 0 with fail
  generalize wrap64 ((IntKind.u64.wrap tk).tmod 1073741825) = tt at *
  go_cut [8] (fun _ wc => ∃ G m, HoRel w v mb s G m wc)
  case first =>
    go_wp2_with fail
    go_loopw [8] (fun ix wr => ∃ i : Nat, i ≤ len ∧ i ≤ 60 ∧ ix = .int .i64 ((i : Nat) : Int) ∧ ∃ G m, HoRel w v mb s G m wr) (fun ix _ => 60 - (intOf ix).toNat)
    case atStart => exact ⟨0, by omega, by omega, rfl, _, _, HR0.out⟩
    case round =>
      obtain ⟨i, hi, hi60, rfl, G, m, R⟩ := hrel
      obtain ⟨wx, rfl⟩ : ∃ wo : World, wo = wr := ⟨_, rfl⟩
      have i0 : (0 : Int) ≤ (i : Int) := Int.natCast_nonneg _
      by_cases hgo : i < len ∧ i < 60
      · obtain ⟨hlt, hlt60⟩ := hgo
        have i1 : (i : Int) < (len : Int) := by omega
        have i2 : (i : Int) < 60 := by omega
        obtain ⟨bl, off, rfl, hbl, hcell⟩ := HR.out (by omega)
        have AL := Lib.hid (allV_c R.view R.ok.wf)
        have RR := Lib.hid R
        have hm16 := R.view.le
        have HCC := Lib.hid (hcell i hlt)
        clear R hcell HR0
        go_wp2_with fail
        refine AL.out.mono ?_
        rintro e w3 ⟨D1, c1, rfl, o1, hT3⟩
        have HO1 := Lib.hid o1
        have R3 := Lib.hid (RR.out.turn0 hT3)
        have q0 := (R3.out.turn.cell (p := ⟨bl, off + i * 7, none⟩) hbl (by simp)).trans (HCC.out 0 (by omega)).1
        have q1 := (R3.out.turn.cell (p := ⟨bl, off + i * 7 + 1, none⟩) hbl (by simp)).trans (HCC.out 1 (by omega)).1
        have q3 := (R3.out.turn.cell (p := ⟨bl, off + i * 7 + 3, none⟩) hbl (by simp)).trans (HCC.out 3 (by omega)).1
        have q4 := (R3.out.turn.cell (p := ⟨bl, off + i * 7 + 4, none⟩) hbl (by simp)).trans (HCC.out 4 (by omega)).1
        have q5 := (R3.out.turn.cell (p := ⟨bl, off + i * 7 + 5, none⟩) hbl (by simp)).trans (HCC.out 5 (by omega)).1
        have q6 := (R3.out.turn.cell (p := ⟨bl, off + i * 7 + 6, none⟩) hbl (by simp)).trans (HCC.out 6 (by omega)).1
        have wf3 := (HCC.out 3 (by omega)).2
        have hb3 := Nat.lt_of_lt_of_le hbl R3.out.turn.size
        have hT3' := hT3
        clear o1 hT3
        generalize F i 0 = kd at *
        generalize F i 1 = at_ at *
        generalize F i 3 = f0 at *
        generalize F i 4 = f1 at *
        generalize F i 5 = f2 at *
        generalize F i 6 = f3 at *
        go_wp2_with fail
        refine (to_c f0 f1 f2 f3 _).mono ?_
        rintro e w4 ⟨rfl, hT4⟩
        have hkr : 0 ≤ (IntKind.u64.wrap kd).tmod 3 ∧ (IntKind.u64.wrap kd).tmod 3 < 3 := by
          have h2 : 0 ≤ IntKind.u64.wrap kd := by rw [IntKind.wrap_u64]; omega
          rw [Int.tmod_eq_emod_of_nonneg h2]
          omega
        have T43 := hT3'.trans hT4
        have T5 : Turn [] w3 (w4.alloc (.cells #[.int .i64 f0, .int .i64 f1, .int .i64 f2, .int .i64 f3] 29)) := hT4.alloc _
        have BX := Blk.new w4 29 #[.int .i64 f0, .int .i64 f1, .int .i64 f2, .int .i64 f3]
        have R5 := Lib.hid (R3.out.turn0 T5)
        have p0 := (T5.cell (p := ⟨bl, off + i * 7, none⟩) hb3 (by simp)).trans q0
        have p1 := (T5.cell (p := ⟨bl, off + i * 7 + 1, none⟩) hb3 (by simp)).trans q1
        have hb5 := Nat.lt_of_lt_of_le hbl R5.out.turn.size
        have HO5 := Lib.hid (own_turnA HO1.out T5 (by simp))
        have x0 := BX.cell 0
        have x3 := BX.cell 3
        have xl := BX.lt
        clear hT3' q0 q1 q3 q4 q5 q6 hT4 T5 HO1 HR AL
        have hkk : (IntKind.u64.wrap kd).tmod 3 = 0 ∨ (IntKind.u64.wrap kd).tmod 3 = 1 ∨ (IntKind.u64.wrap kd).tmod 3 = 2 := by omega
        clear hkr
        rcases hkk with hkk | hkk | hkk
        · -- Add
          have AD := Lib.hid (addV_c R5.out.view f0 f1 f2 f3 tt)
          have SY := Lib.hid (addR_stays R5.out.view.rises R5.out.since (own := (5, 0, 0, 1)) (f0, f1, f2, f3) tt)
          have OY := Lib.hid (addR_ok (own := (5, 0, 0, 1)) R5.out.ok (f0, f1, f2, f3) tt)
          go_wp2_with fail
          refine AD.out.mono ?_
          rintro e w6 ⟨rfl, V6, hT6⟩
          have R6 := Lib.hid (R5.out.view' V6 OY.out SY.out.2 hT6)
          have ST := Lib.hid SY.out.1
          have HO6 := Lib.hid (own_turnA HO5.out hT6 (fun j hj hm => by simp at hm; subst hm; have h1 := (own_ltA HO5.out j hj).2; have h2 := RR.out.view.lts.2; omega))
          clear AD SY OY V6 hT6 T43 hkk R5 HO5 x0 x3 xl BX p0 p1 hb5
          generalize (addR (5, 0, 0, 1) m (f0, f1, f2, f3) tt).1 = ra at *
          generalize (addR (5, 0, 0, 1) m (f0, f1, f2, f3) tt).2 = m6 at *
          have AL6 := Lib.hid (allV_c R6.out.view R6.out.ok.wf)
          have hle6 := R6.out.view.le
          have hml := ST.out.1
          go_wp2_with fail
          refine AL6.out.mono ?_
          rintro e w7 ⟨D2, c2, rfl, o2, hT7⟩
          have HO7 := Lib.hid (own_turnA HO6.out hT7 (by simp))
          have HP7 := Lib.hid o2
          have R7 := Lib.hid (R6.out.turn0 hT7)
          have nl1 : decide (m6.length < m.length) = false := by simpa using hml
          have nl2 : decide ((16 : Int) < (m6.length : Int)) = false := by simp; omega
          clear o2 hT7 AL6 HO6 R6 hml
          go_wp2_with fail
          go_loopw [12] (fun kx wr => ∃ k : Nat, k ≤ m.length ∧ kx = .int .i64 ((k : Nat) : Int) ∧ Turn [] w7 wr) (fun kx _ => m.length - (intOf kx).toNat)
          case atStart => exact ⟨0, by omega, rfl, Turn.refl _ _⟩
          case round =>
            obtain ⟨k, hk, rfl, hTk⟩ := hrel
            obtain ⟨wy, rfl⟩ : ∃ wo : World, wo = wr := ⟨_, rfl⟩
            have k0 : (0 : Int) ≤ (k : Int) := Int.natCast_nonneg _
            by_cases hkl : k < m.length
            · have k1 : (k : Int) < (m.length : Int) := by omega
              have hkl2 : k < (m.map (·.2)).length := by simpa using hkl
              obtain ⟨bw, ow, rfl, lw, X1⟩ := ecs_at ((Sl.of_own HO7.out).turn0 hTk) hkl2
              have hget : (m.map (·.2))[k] = m[k].2 := by simp
              rw [hget] at X1
              have hmem := List.getElem_mem hkl
              have hkey := RR.out.ok.key _ hmem
              have hwf := RR.out.ok.wf _ hmem
              obtain ⟨e', he', hor⟩ := ST.out.2 _ _ (kget_of_mem RR.out.view.rises (k := m[k].1) (v := m[k].2) hmem)
              have hkey' := R7.out.ok.key _ (kget_mem he')
              obtain ⟨hf1, hf2⟩ := find_some he'
              rw [← hkey] at hwf hf1 hf2
              have hid1 : e'.c.1 = m[k].2.c.1 := by rw [hkey]; exact hkey'
              clear hget hmem hkey he' hkey'
              generalize m[k].2 = ev at *
              obtain ⟨⟨a1, a2, a3, a4⟩, dn, hd, sn, ic⟩ := ev
              obtain ⟨y0, y1, y2, y3, y4, y5, y6, y7⟩ := X1
              simp only at y0 y1 y2 y3 y4 y5 y6 y7 hwf hf1 hf2 hid1 hor
              have FV := findV_c (R7.out.turn0 hTk).view a1 hwf
              rw [hf1, hf2] at FV
              obtain ⟨⟨b1, b2, b3, b4⟩, dn', hd', sn', ic'⟩ := e'
              simp only at hid1 hor
              subst hid1
              unfold ven at FV
              simp only at FV
              have HFV := Lib.hid FV
              clear FV hf1 hf2
              go_wp2_with fail
              refine HFV.out.mono ?_
              rintro e w8 ⟨rfl, hT8⟩
              have TZ : Turn [] wy (w8.alloc (.cells #[.int .i64 b1, .int .i64 b2, .int .i64 b3, .int .i64 b4, .bool dn', .int .i64 hd', .int .i64 sn', .int .i64 ic'] 37)) := hT8.alloc _
              have z0 := (TZ.cell (p := ⟨bw, ow + k * 8, none⟩) lw (by simp)).trans y0
              have z1 := (TZ.cell (p := ⟨bw, ow + k * 8 + 1, none⟩) lw (by simp)).trans y1
              have z2 := (TZ.cell (p := ⟨bw, ow + k * 8 + 2, none⟩) lw (by simp)).trans y2
              have z3 := (TZ.cell (p := ⟨bw, ow + k * 8 + 3, none⟩) lw (by simp)).trans y3
              have zl := Nat.lt_of_lt_of_le lw TZ.size
              have BZ := Blk.new w8 37 #[.int .i64 b1, .int .i64 b2, .int .i64 b3, .int .i64 b4, .bool dn', .int .i64 hd', .int .i64 sn', .int .i64 ic']
              have u0 := BZ.cell 0
              have u1 := BZ.cell 1
              have u2 := BZ.cell 2
              have u3 := BZ.cell 3
              have ul := BZ.lt
              have TK := hTk.trans TZ
              clear y0 y1 y2 y3 y4 y5 y6 y7 hT8 BZ
              go_wp2_with fail
              generalize w8.alloc (.cells #[.int .i64 b1, .int .i64 b2, .int .i64 b3, .int .i64 b4, .bool dn', .int .i64 hd', .int .i64 sn', .int .i64 ic'] 37) = w9 at *
              generalize w8.heap.size = zb at *
              by_cases hsame : b2 = a2 ∧ b3 = a3 ∧ b4 = a4
              · obtain ⟨rfl, rfl, rfl⟩ := hsame
                clear hor
                go_quiet (fail)
                go_wp2_with fail
                go_roundw
                case rel => exact ⟨k + 1, by omega, by go_num, TK.drewN _⟩
                case measure => simp [intOf]; omega
              · have hgt : a4 < b4 := by
                  rcases hor with h | h
                  · simp only [Prod.mk.injEq, true_and] at h
                    exact absurd h hsame
                  · exact h
                clear hor
                have ngt : decide (b4 ≤ a4) = false := by simpa using hgt
                by_cases h2 : b2 = a2
                · subst h2
                  by_cases h3 : b3 = a3
                  · subst h3
                    have h4 : ¬ b4 = a4 := by omega
                    have h4' : (b4 == a4) = false := by simpa using h4
                    clear hsame
                    go_quiet (fail)
                    go_wp2_with fail
                    go_roundw
                    case rel => exact ⟨k + 1, by omega, by go_num, TK.drewN _⟩
                    case measure => simp [intOf]; omega
                  · have h3' : (b3 == a3) = false := by simpa using h3
                    clear hsame
                    go_quiet (fail)
                    go_wp2_with fail
                    go_roundw
                    case rel => exact ⟨k + 1, by omega, by go_num, TK.drewN _⟩
                    case measure => simp [intOf]; omega
                · have h2' : (b2 == a2) = false := by simpa using h2
                  clear hsame
                  go_quiet (fail)
                  go_wp2_with fail
                  go_roundw
                  case rel => exact ⟨k + 1, by omega, by go_num, TK.drewN _⟩
                  case measure => simp [intOf]; omega
            · have k1 : ¬ (k : Int) < (m.length : Int) := by omega
              have R8 := Lib.hid (R7.out.turn0 hTk)
              have HP8 := Lib.hid (own_turnA HP7.out hTk (by simp))
              clear HP7 HO7 R7 hTk
              go_wp2_with fail
              go_loopw [15] (fun jx wr => ∃ j : Nat, jx = .int .i64 ((j + 1 : Nat) : Int) ∧ j ≤ 16 ∧ Turn [] wy wr) (fun jx _ => 20 - (intOf jx).toNat)
              case atStart => exact ⟨0, rfl, by omega, Turn.refl _ _⟩
              case round =>
                obtain ⟨j, rfl, hj16, hTj⟩ := hrel
                obtain ⟨wz, rfl⟩ : ∃ wo : World, wo = wr := ⟨_, rfl⟩
                have j0 : (0 : Int) ≤ (j : Int) := Int.natCast_nonneg _
                have jc : ((j + 1 : Nat) : Int) = (j : Int) + 1 := by omega
                by_cases hjl : j + 1 < m6.length
                · have j1 : ((j + 1 : Nat) : Int) < (m6.length : Int) := by omega
                  have hjl1 : j < (m6.map (·.2)).length := by simp; omega
                  have hjl2 : j + 1 < (m6.map (·.2)).length := by simpa using hjl
                  have hri := rises_at R8.out.view.rises hjl
                  have hk1 := R8.out.ok.key _ (List.getElem_mem (show j < m6.length by omega))
                  have hk2 := R8.out.ok.key _ (List.getElem_mem hjl)
                  obtain ⟨bw, ow, hDD, lw, X1⟩ := ecs_at ((Sl.of_own HP8.out).turn0 hTj) hjl1
                  obtain ⟨bw', ow', hDD', lw', X2⟩ := ecs_at ((Sl.of_own HP8.out).turn0 hTj) hjl2
                  rw [hDD] at hDD'
                  cases hDD'
                  subst hDD
                  have y0 := X1.1
                  have y1 := X2.1
                  have g1 : (m6.map (·.2))[j] = m6[j].2 := by simp
                  have g2 : (m6.map (·.2))[j + 1] = m6[j + 1].2 := by simp
                  rw [g1, hk1] at y0
                  rw [g2, hk2] at y1
                  have hle : decide (m6[j + 1].1 ≤ m6[j].1) = false := by simpa using hri
                  have hsub : ((j + 1 : Nat) : Int) - 1 = ((j : Nat) : Int) := by omega
                  clear X1 X2 g1 g2 hk1 hk2 hri jc
                  generalize m6[j].1 = ka at *
                  generalize m6[j + 1].1 = kb at *
                  have HJ : Hid (∃ q : Nat, q = j + 1) := ⟨_, rfl⟩
                  obtain ⟨q, hq⟩ := HJ.out
                  rw [← hq] at y1 j1 hsub
                  rw [← hq]
                  have HQ := Lib.hid hq
                  have q0 : (0 : Int) ≤ (q : Int) := Int.natCast_nonneg _
                  have q1 : (1 : Int) ≤ (q : Int) := by omega
                  have jl : (j : Int) < (m6.length : Int) := by omega
                  clear hq HJ
                  go_wp2_with fail
                  go_quiet (fail)
                  go_wp2_with fail
                  go_roundw
                  case rel => exact ⟨q, by go_num, by have := HQ.out; omega, hTj.drewN _⟩
                  case measure => have := HQ.out; simp [intOf]; omega
                · have j1 : ¬ ((j + 1 : Nat) : Int) < (m6.length : Int) := by omega
                  have R9 := Lib.hid (R8.out.turn0 hTj)
                  clear jc
                  generalize ((j + 1 : Nat) : Int) = jj at *
                  go_wp2_with fail
                  go_roundw
                  case rel => exact ⟨i + 1, by omega, by omega, by go_num, _, m6, R9.out⟩
                  case measure => simp [intOf]; omega
        · -- Doubt
          obtain ⟨t2, ht2, ha2, hb2⟩ : ∃ t2 : Int, IntKind.i64.wrap ((IntKind.u64.wrap at_).tmod 1073741825) = t2 ∧ 0 ≤ t2 ∧ t2 < 1073741825 := ⟨_, rfl, by
            have := umod_range at_ 1073741825 (by omega) (by omega)
            have hw : wrap64 ((IntKind.u64.wrap at_).tmod 1073741825) = IntKind.i64.wrap ((IntKind.u64.wrap at_).tmod 1073741825) := by
              generalize (IntKind.u64.wrap at_).tmod 1073741825 = z
              rw [IntKind.wrap_i64]
              unfold wrap64
              omega
            rw [← hw]
            omega⟩
          have HT2 := Lib.hid ht2
          clear ht2
          have DB := Lib.hid (fun wz (hz : Turn [] (w4.alloc (.cells #[.int .i64 f0, .int .i64 f1, .int .i64 f2, .int .i64 f3] 29)) wz) => doubtV_c (R5.out.turn0 hz).view f0 t2 wf3)
          have SY := Lib.hid (doubtR_stays R5.out.view.rises R5.out.since R5.out.ok f0 t2 ha2 (by omega))
          have nb1 : ¬ w4.heap.size = mb := by have h1 := RR.out.view.lts.2; have h2 := T43.size; omega
          have nb2 : ¬ bl = mb := by have := R5.out.lows.2.1; omega
          have AE : ∀ wy, Turn [mb] (w4.alloc (.cells #[.int .i64 f0, .int .i64 f1, .int .i64 f2, .int .i64 f3] 29)) wy → (wy.cell? ⟨w4.heap.size, 0, none⟩ = some (.int .i64 f0) ∧ wy.cell? ⟨bl, off + i * 7 + 1, none⟩ = some (.int .i64 at_) ∧ Turn [mb] (w4.alloc (.cells #[.int .i64 f0, .int .i64 f1, .int .i64 f2, .int .i64 f3] 29)) wy) := fun wy hy => ⟨(hy.cell (p := ⟨w4.heap.size, 0, none⟩) xl (by simp; exact nb1)).trans x0, (hy.cell (p := ⟨bl, off + i * 7 + 1, none⟩) hb5 (by simp; exact nb2)).trans p1, hy⟩
          have AE' := Lib.hid AE
          have T50 := (Turn.refl [] (w4.alloc (.cells #[.int .i64 f0, .int .i64 f1, .int .i64 f2, .int .i64 f3] 29))).drew
          have T5a : Turn [mb] (w4.alloc (.cells #[.int .i64 f0, .int .i64 f1, .int .i64 f2, .int .i64 f3] 29)) (w4.alloc (.cells #[.int .i64 f0, .int .i64 f1, .int .i64 f2, .int .i64 f3] 29)).drew := T50.mono (by simp)
          clear AE
          go_wp2_with fail
          go_region_held3 (fun wy => wy.cell? ⟨w4.heap.size, 0, none⟩ = some (.int .i64 f0) ∧ wy.cell? ⟨bl, off + i * 7 + 1, none⟩ = some (.int .i64 at_) ∧ Turn [mb] (w4.alloc (.cells #[.int .i64 f0, .int .i64 f1, .int .i64 f2, .int .i64 f3] 29)) wy)
            (first | exact AE'.out _ (by assumption) | trivial)
            ((go_at_call 14; rw [HT2.out]; refine (DB.out _ T50).mono ?_; rintro e w6 ⟨rfl, V6, hT6⟩; have T56 : Turn [mb] (w4.alloc (.cells #[.int .i64 f0, .int .i64 f1, .int .i64 f2, .int .i64 f3] 29)) w6 := (T50.mono (by simp)).trans hT6))
          have R6 := Lib.hid (R5.out.view' V6 SY.out.2.2 SY.out.2.1 T56)
          have ST := Lib.hid SY.out.1
          have HO6 := Lib.hid (own_turnA HO5.out T56 (fun j hj hm => by simp at hm; subst hm; have h1 := (own_ltA HO5.out j hj).2; have h2 := RR.out.view.lts.2; omega))
          clear DB SY V6 hT6 T56 nb1 nb2 T43 hkk HT2 T50 AE' R5 HO5 x0 x3 xl BX p0 p1 hb5
          generalize (doubtR m f0 t2).1 = ra at *
          generalize (doubtR m f0 t2).2 = m6 at *
          have AL6 := Lib.hid (allV_c R6.out.view R6.out.ok.wf)
          have hle6 := R6.out.view.le
          have hml := ST.out.1
          go_wp2_with fail
          refine AL6.out.mono ?_
          rintro e w7 ⟨D2, c2, rfl, o2, hT7⟩
          have HO7 := Lib.hid (own_turnA HO6.out hT7 (by simp))
          have HP7 := Lib.hid o2
          have R7 := Lib.hid (R6.out.turn0 hT7)
          have nl1 : decide (m6.length < m.length) = false := by simpa using hml
          have nl2 : decide ((16 : Int) < (m6.length : Int)) = false := by simp; omega
          clear o2 hT7 AL6 HO6 R6 hml
          go_wp2_with fail
          go_loopw [12] (fun kx wr => ∃ k : Nat, k ≤ m.length ∧ kx = .int .i64 ((k : Nat) : Int) ∧ Turn [] w7 wr) (fun kx _ => m.length - (intOf kx).toNat)
          case atStart => exact ⟨0, by omega, rfl, Turn.refl _ _⟩
          case round =>
            obtain ⟨k, hk, rfl, hTk⟩ := hrel
            obtain ⟨wy, rfl⟩ : ∃ wo : World, wo = wr := ⟨_, rfl⟩
            have k0 : (0 : Int) ≤ (k : Int) := Int.natCast_nonneg _
            by_cases hkl : k < m.length
            · have k1 : (k : Int) < (m.length : Int) := by omega
              have hkl2 : k < (m.map (·.2)).length := by simpa using hkl
              obtain ⟨bw, ow, rfl, lw, X1⟩ := ecs_at ((Sl.of_own HO7.out).turn0 hTk) hkl2
              have hget : (m.map (·.2))[k] = m[k].2 := by simp
              rw [hget] at X1
              have hmem := List.getElem_mem hkl
              have hkey := RR.out.ok.key _ hmem
              have hwf := RR.out.ok.wf _ hmem
              obtain ⟨e', he', hor⟩ := ST.out.2 _ _ (kget_of_mem RR.out.view.rises (k := m[k].1) (v := m[k].2) hmem)
              have hkey' := R7.out.ok.key _ (kget_mem he')
              obtain ⟨hf1, hf2⟩ := find_some he'
              rw [← hkey] at hwf hf1 hf2
              have hid1 : e'.c.1 = m[k].2.c.1 := by rw [hkey]; exact hkey'
              clear hget hmem hkey he' hkey'
              generalize m[k].2 = ev at *
              obtain ⟨⟨a1, a2, a3, a4⟩, dn, hd, sn, ic⟩ := ev
              obtain ⟨y0, y1, y2, y3, y4, y5, y6, y7⟩ := X1
              simp only at y0 y1 y2 y3 y4 y5 y6 y7 hwf hf1 hf2 hid1 hor
              have FV := findV_c (R7.out.turn0 hTk).view a1 hwf
              rw [hf1, hf2] at FV
              obtain ⟨⟨b1, b2, b3, b4⟩, dn', hd', sn', ic'⟩ := e'
              simp only at hid1 hor
              subst hid1
              unfold ven at FV
              simp only at FV
              have HFV := Lib.hid FV
              clear FV hf1 hf2
              go_wp2_with fail
              refine HFV.out.mono ?_
              rintro e w8 ⟨rfl, hT8⟩
              have TZ : Turn [] wy (w8.alloc (.cells #[.int .i64 b1, .int .i64 b2, .int .i64 b3, .int .i64 b4, .bool dn', .int .i64 hd', .int .i64 sn', .int .i64 ic'] 37)) := hT8.alloc _
              have z0 := (TZ.cell (p := ⟨bw, ow + k * 8, none⟩) lw (by simp)).trans y0
              have z1 := (TZ.cell (p := ⟨bw, ow + k * 8 + 1, none⟩) lw (by simp)).trans y1
              have z2 := (TZ.cell (p := ⟨bw, ow + k * 8 + 2, none⟩) lw (by simp)).trans y2
              have z3 := (TZ.cell (p := ⟨bw, ow + k * 8 + 3, none⟩) lw (by simp)).trans y3
              have zl := Nat.lt_of_lt_of_le lw TZ.size
              have BZ := Blk.new w8 37 #[.int .i64 b1, .int .i64 b2, .int .i64 b3, .int .i64 b4, .bool dn', .int .i64 hd', .int .i64 sn', .int .i64 ic']
              have u0 := BZ.cell 0
              have u1 := BZ.cell 1
              have u2 := BZ.cell 2
              have u3 := BZ.cell 3
              have ul := BZ.lt
              have TK := hTk.trans TZ
              clear y0 y1 y2 y3 y4 y5 y6 y7 hT8 BZ
              go_wp2_with fail
              generalize w8.alloc (.cells #[.int .i64 b1, .int .i64 b2, .int .i64 b3, .int .i64 b4, .bool dn', .int .i64 hd', .int .i64 sn', .int .i64 ic'] 37) = w9 at *
              generalize w8.heap.size = zb at *
              by_cases hsame : b2 = a2 ∧ b3 = a3 ∧ b4 = a4
              · obtain ⟨rfl, rfl, rfl⟩ := hsame
                clear hor
                go_quiet (fail)
                go_wp2_with fail
                go_roundw
                case rel => exact ⟨k + 1, by omega, by go_num, TK.drewN _⟩
                case measure => simp [intOf]; omega
              · have hgt : a4 < b4 := by
                  rcases hor with h | h
                  · simp only [Prod.mk.injEq, true_and] at h
                    exact absurd h hsame
                  · exact h
                clear hor
                have ngt : decide (b4 ≤ a4) = false := by simpa using hgt
                by_cases h2 : b2 = a2
                · subst h2
                  by_cases h3 : b3 = a3
                  · subst h3
                    have h4 : ¬ b4 = a4 := by omega
                    have h4' : (b4 == a4) = false := by simpa using h4
                    clear hsame
                    go_quiet (fail)
                    go_wp2_with fail
                    go_roundw
                    case rel => exact ⟨k + 1, by omega, by go_num, TK.drewN _⟩
                    case measure => simp [intOf]; omega
                  · have h3' : (b3 == a3) = false := by simpa using h3
                    clear hsame
                    go_quiet (fail)
                    go_wp2_with fail
                    go_roundw
                    case rel => exact ⟨k + 1, by omega, by go_num, TK.drewN _⟩
                    case measure => simp [intOf]; omega
                · have h2' : (b2 == a2) = false := by simpa using h2
                  clear hsame
                  go_quiet (fail)
                  go_wp2_with fail
                  go_roundw
                  case rel => exact ⟨k + 1, by omega, by go_num, TK.drewN _⟩
                  case measure => simp [intOf]; omega
            · have k1 : ¬ (k : Int) < (m.length : Int) := by omega
              have R8 := Lib.hid (R7.out.turn0 hTk)
              have HP8 := Lib.hid (own_turnA HP7.out hTk (by simp))
              clear HP7 HO7 R7 hTk
              go_wp2_with fail
              go_loopw [15] (fun jx wr => ∃ j : Nat, jx = .int .i64 ((j + 1 : Nat) : Int) ∧ j ≤ 16 ∧ Turn [] wy wr) (fun jx _ => 20 - (intOf jx).toNat)
              case atStart => exact ⟨0, rfl, by omega, Turn.refl _ _⟩
              case round =>
                obtain ⟨j, rfl, hj16, hTj⟩ := hrel
                obtain ⟨wz, rfl⟩ : ∃ wo : World, wo = wr := ⟨_, rfl⟩
                have j0 : (0 : Int) ≤ (j : Int) := Int.natCast_nonneg _
                have jc : ((j + 1 : Nat) : Int) = (j : Int) + 1 := by omega
                by_cases hjl : j + 1 < m6.length
                · have j1 : ((j + 1 : Nat) : Int) < (m6.length : Int) := by omega
                  have hjl1 : j < (m6.map (·.2)).length := by simp; omega
                  have hjl2 : j + 1 < (m6.map (·.2)).length := by simpa using hjl
                  have hri := rises_at R8.out.view.rises hjl
                  have hk1 := R8.out.ok.key _ (List.getElem_mem (show j < m6.length by omega))
                  have hk2 := R8.out.ok.key _ (List.getElem_mem hjl)
                  obtain ⟨bw, ow, hDD, lw, X1⟩ := ecs_at ((Sl.of_own HP8.out).turn0 hTj) hjl1
                  obtain ⟨bw', ow', hDD', lw', X2⟩ := ecs_at ((Sl.of_own HP8.out).turn0 hTj) hjl2
                  rw [hDD] at hDD'
                  cases hDD'
                  subst hDD
                  have y0 := X1.1
                  have y1 := X2.1
                  have g1 : (m6.map (·.2))[j] = m6[j].2 := by simp
                  have g2 : (m6.map (·.2))[j + 1] = m6[j + 1].2 := by simp
                  rw [g1, hk1] at y0
                  rw [g2, hk2] at y1
                  have hle : decide (m6[j + 1].1 ≤ m6[j].1) = false := by simpa using hri
                  have hsub : ((j + 1 : Nat) : Int) - 1 = ((j : Nat) : Int) := by omega
                  clear X1 X2 g1 g2 hk1 hk2 hri jc
                  generalize m6[j].1 = ka at *
                  generalize m6[j + 1].1 = kb at *
                  have HJ : Hid (∃ q : Nat, q = j + 1) := ⟨_, rfl⟩
                  obtain ⟨q, hq⟩ := HJ.out
                  rw [← hq] at y1 j1 hsub
                  rw [← hq]
                  have HQ := Lib.hid hq
                  have q0 : (0 : Int) ≤ (q : Int) := Int.natCast_nonneg _
                  have q1 : (1 : Int) ≤ (q : Int) := by omega
                  have jl : (j : Int) < (m6.length : Int) := by omega
                  clear hq HJ
                  go_wp2_with fail
                  go_quiet (fail)
                  go_wp2_with fail
                  go_roundw
                  case rel => exact ⟨q, by go_num, by have := HQ.out; omega, hTj.drewN _⟩
                  case measure => have := HQ.out; simp [intOf]; omega
                · have j1 : ¬ ((j + 1 : Nat) : Int) < (m6.length : Int) := by omega
                  have R9 := Lib.hid (R8.out.turn0 hTj)
                  clear jc
                  generalize ((j + 1 : Nat) : Int) = jj at *
                  go_wp2_with fail
                  go_roundw
                  case rel => exact ⟨i + 1, by omega, by omega, by go_num, _, m6, R9.out⟩
                  case measure => simp [intOf]; omega
        · -- Revoke
          have TX : Turn [] (w4.alloc (.cells #[.int .i64 f0, .int .i64 f1, .int .i64 f2, .int .i64 f3] 29)) ((w4.alloc (.cells #[.int .i64 f0, .int .i64 f1, .int .i64 f2, .int .i64 f3] 29)).alloc (.cells #[.int .i64 f3] 3)) := (Turn.refl [] _).alloc _
          have SX : Sl ((w4.alloc (.cells #[.int .i64 f0, .int .i64 f1, .int .i64 f2, .int .i64 f3] 29)).alloc (.cells #[.int .i64 f3] 3)) (some ⟨w4.heap.size + 1, 0, none⟩) (i64s [f3]) := by
            have := Sl.new (w4.alloc (.cells #[.int .i64 f0, .int .i64 f1, .int .i64 f2, .int .i64 f3] 29)) #[.int .i64 f3] 3
            simpa [i64s] using this
          have RX := Lib.hid (R5.out.turn0 TX)
          have RV := Lib.hid (revoke_c RX.out.set 2 (by omega) _ 1 1 [f3] SX rfl (by omega))
          clear SX
          go_wp2_with fail
          refine RV.out.mono ?_
          rintro e w6 ⟨G6, rfl, S6, -, -, hB6, hT6⟩
          have R6 := Lib.hid (RX.out.set' S6 hB6 hT6)
          have ST := Lib.hid (Stays.refl m)
          have HO6 := Lib.hid (own_turnA (own_turnA HO5.out TX (by simp)) hT6 (fun j hj hm => by simp at hm; subst hm; have h1 := (own_ltA HO5.out j hj).2; have h2 := RR.out.set.blk.lt; omega))
          clear RV S6 hB6 hT6 TX RX T43 hkk R5 HO5 x0 x3 xl BX p0 p1 hb5
          generalize (revR (G 2).xs [f3]).1 = ra at *
          generalize hm6 : m = m6 at *
          have HM6 := Lib.hid hm6
          clear hm6
          have AL6 := Lib.hid (allV_c R6.out.view R6.out.ok.wf)
          have hle6 := R6.out.view.le
          have hml := ST.out.1
          go_wp2_with fail
          refine AL6.out.mono ?_
          rintro e w7 ⟨D2, c2, rfl, o2, hT7⟩
          have HO7 := Lib.hid (own_turnA HO6.out hT7 (by simp))
          have HP7 := Lib.hid o2
          have R7 := Lib.hid (R6.out.turn0 hT7)
          have nl1 : decide (m6.length < m6.length) = false := by simp
          have nl2 : decide ((16 : Int) < (m6.length : Int)) = false := by simp; omega
          clear o2 hT7 AL6 HO6 R6 hml
          go_wp2_with fail
          go_loopw [12] (fun kx wr => ∃ k : Nat, k ≤ m6.length ∧ kx = .int .i64 ((k : Nat) : Int) ∧ Turn [] w7 wr) (fun kx _ => m6.length - (intOf kx).toNat)
          case atStart => exact ⟨0, by omega, rfl, Turn.refl _ _⟩
          case round =>
            obtain ⟨k, hk, rfl, hTk⟩ := hrel
            obtain ⟨wy, rfl⟩ : ∃ wo : World, wo = wr := ⟨_, rfl⟩
            have k0 : (0 : Int) ≤ (k : Int) := Int.natCast_nonneg _
            by_cases hkl : k < m6.length
            · have k1 : (k : Int) < (m6.length : Int) := by omega
              have hkl2 : k < (m6.map (·.2)).length := by simpa using hkl
              obtain ⟨bw, ow, rfl, lw, X1⟩ := ecs_at ((Sl.of_own HO7.out).turn0 hTk) hkl2
              have hget : (m6.map (·.2))[k] = m6[k].2 := by simp
              rw [hget] at X1
              have hmem := List.getElem_mem hkl
              have hkey := RR.out.ok.key _ hmem
              have hwf := RR.out.ok.wf _ hmem
              obtain ⟨e', he', hor⟩ := ST.out.2 _ _ (kget_of_mem RR.out.view.rises (k := m6[k].1) (v := m6[k].2) hmem)
              have hkey' := R7.out.ok.key _ (kget_mem he')
              obtain ⟨hf1, hf2⟩ := find_some he'
              rw [← hkey] at hwf hf1 hf2
              have hid1 : e'.c.1 = m6[k].2.c.1 := by rw [hkey]; exact hkey'
              clear hget hmem hkey he' hkey'
              generalize m6[k].2 = ev at *
              obtain ⟨⟨a1, a2, a3, a4⟩, dn, hd, sn, ic⟩ := ev
              obtain ⟨y0, y1, y2, y3, y4, y5, y6, y7⟩ := X1
              simp only at y0 y1 y2 y3 y4 y5 y6 y7 hwf hf1 hf2 hid1 hor
              have FV := findV_c (R7.out.turn0 hTk).view a1 hwf
              rw [hf1, hf2] at FV
              obtain ⟨⟨b1, b2, b3, b4⟩, dn', hd', sn', ic'⟩ := e'
              simp only at hid1 hor
              subst hid1
              unfold ven at FV
              simp only at FV
              have HFV := Lib.hid FV
              clear FV hf1 hf2
              go_wp2_with fail
              refine HFV.out.mono ?_
              rintro e w8 ⟨rfl, hT8⟩
              have TZ : Turn [] wy (w8.alloc (.cells #[.int .i64 b1, .int .i64 b2, .int .i64 b3, .int .i64 b4, .bool dn', .int .i64 hd', .int .i64 sn', .int .i64 ic'] 37)) := hT8.alloc _
              have z0 := (TZ.cell (p := ⟨bw, ow + k * 8, none⟩) lw (by simp)).trans y0
              have z1 := (TZ.cell (p := ⟨bw, ow + k * 8 + 1, none⟩) lw (by simp)).trans y1
              have z2 := (TZ.cell (p := ⟨bw, ow + k * 8 + 2, none⟩) lw (by simp)).trans y2
              have z3 := (TZ.cell (p := ⟨bw, ow + k * 8 + 3, none⟩) lw (by simp)).trans y3
              have zl := Nat.lt_of_lt_of_le lw TZ.size
              have BZ := Blk.new w8 37 #[.int .i64 b1, .int .i64 b2, .int .i64 b3, .int .i64 b4, .bool dn', .int .i64 hd', .int .i64 sn', .int .i64 ic']
              have u0 := BZ.cell 0
              have u1 := BZ.cell 1
              have u2 := BZ.cell 2
              have u3 := BZ.cell 3
              have ul := BZ.lt
              have TK := hTk.trans TZ
              clear y0 y1 y2 y3 y4 y5 y6 y7 hT8 BZ
              go_wp2_with fail
              generalize w8.alloc (.cells #[.int .i64 b1, .int .i64 b2, .int .i64 b3, .int .i64 b4, .bool dn', .int .i64 hd', .int .i64 sn', .int .i64 ic'] 37) = w9 at *
              generalize w8.heap.size = zb at *
              by_cases hsame : b2 = a2 ∧ b3 = a3 ∧ b4 = a4
              · obtain ⟨rfl, rfl, rfl⟩ := hsame
                clear hor
                go_quiet (fail)
                go_wp2_with fail
                go_roundw
                case rel => exact ⟨k + 1, by omega, by go_num, TK.drewN _⟩
                case measure => simp [intOf]; omega
              · have hgt : a4 < b4 := by
                  rcases hor with h | h
                  · simp only [Prod.mk.injEq, true_and] at h
                    exact absurd h hsame
                  · exact h
                clear hor
                have ngt : decide (b4 ≤ a4) = false := by simpa using hgt
                by_cases h2 : b2 = a2
                · subst h2
                  by_cases h3 : b3 = a3
                  · subst h3
                    have h4 : ¬ b4 = a4 := by omega
                    have h4' : (b4 == a4) = false := by simpa using h4
                    clear hsame
                    go_quiet (fail)
                    go_wp2_with fail
                    go_roundw
                    case rel => exact ⟨k + 1, by omega, by go_num, TK.drewN _⟩
                    case measure => simp [intOf]; omega
                  · have h3' : (b3 == a3) = false := by simpa using h3
                    clear hsame
                    go_quiet (fail)
                    go_wp2_with fail
                    go_roundw
                    case rel => exact ⟨k + 1, by omega, by go_num, TK.drewN _⟩
                    case measure => simp [intOf]; omega
                · have h2' : (b2 == a2) = false := by simpa using h2
                  clear hsame
                  go_quiet (fail)
                  go_wp2_with fail
                  go_roundw
                  case rel => exact ⟨k + 1, by omega, by go_num, TK.drewN _⟩
                  case measure => simp [intOf]; omega
            · have k1 : ¬ (k : Int) < (m6.length : Int) := by omega
              have R8 := Lib.hid (R7.out.turn0 hTk)
              have HP8 := Lib.hid (own_turnA HP7.out hTk (by simp))
              clear HP7 HO7 R7 hTk
              go_wp2_with fail
              go_loopw [15] (fun jx wr => ∃ j : Nat, jx = .int .i64 ((j + 1 : Nat) : Int) ∧ j ≤ 16 ∧ Turn [] wy wr) (fun jx _ => 20 - (intOf jx).toNat)
              case atStart => exact ⟨0, rfl, by omega, Turn.refl _ _⟩
              case round =>
                obtain ⟨j, rfl, hj16, hTj⟩ := hrel
                obtain ⟨wz, rfl⟩ : ∃ wo : World, wo = wr := ⟨_, rfl⟩
                have j0 : (0 : Int) ≤ (j : Int) := Int.natCast_nonneg _
                have jc : ((j + 1 : Nat) : Int) = (j : Int) + 1 := by omega
                by_cases hjl : j + 1 < m6.length
                · have j1 : ((j + 1 : Nat) : Int) < (m6.length : Int) := by omega
                  have hjl1 : j < (m6.map (·.2)).length := by simp; omega
                  have hjl2 : j + 1 < (m6.map (·.2)).length := by simpa using hjl
                  have hri := rises_at R8.out.view.rises hjl
                  have hk1 := R8.out.ok.key _ (List.getElem_mem (show j < m6.length by omega))
                  have hk2 := R8.out.ok.key _ (List.getElem_mem hjl)
                  obtain ⟨bw, ow, hDD, lw, X1⟩ := ecs_at ((Sl.of_own HP8.out).turn0 hTj) hjl1
                  obtain ⟨bw', ow', hDD', lw', X2⟩ := ecs_at ((Sl.of_own HP8.out).turn0 hTj) hjl2
                  rw [hDD] at hDD'
                  cases hDD'
                  subst hDD
                  have y0 := X1.1
                  have y1 := X2.1
                  have g1 : (m6.map (·.2))[j] = m6[j].2 := by simp
                  have g2 : (m6.map (·.2))[j + 1] = m6[j + 1].2 := by simp
                  rw [g1, hk1] at y0
                  rw [g2, hk2] at y1
                  have hle : decide (m6[j + 1].1 ≤ m6[j].1) = false := by simpa using hri
                  have hsub : ((j + 1 : Nat) : Int) - 1 = ((j : Nat) : Int) := by omega
                  clear X1 X2 g1 g2 hk1 hk2 hri jc
                  generalize m6[j].1 = ka at *
                  generalize m6[j + 1].1 = kb at *
                  have HJ : Hid (∃ q : Nat, q = j + 1) := ⟨_, rfl⟩
                  obtain ⟨q, hq⟩ := HJ.out
                  rw [← hq] at y1 j1 hsub
                  rw [← hq]
                  have HQ := Lib.hid hq
                  have q0 : (0 : Int) ≤ (q : Int) := Int.natCast_nonneg _
                  have q1 : (1 : Int) ≤ (q : Int) := by omega
                  have jl : (j : Int) < (m6.length : Int) := by omega
                  clear hq HJ
                  go_wp2_with fail
                  go_quiet (fail)
                  go_wp2_with fail
                  go_roundw
                  case rel => exact ⟨q, by go_num, by have := HQ.out; omega, hTj.drewN _⟩
                  case measure => have := HQ.out; simp [intOf]; omega
                · have j1 : ¬ ((j + 1 : Nat) : Int) < (m6.length : Int) := by omega
                  have R9 := Lib.hid (R8.out.turn0 hTj)
                  clear jc
                  generalize ((j + 1 : Nat) : Int) = jj at *
                  go_wp2_with fail
                  go_roundw
                  case rel => exact ⟨i + 1, by omega, by omega, by go_num, _, m6, R9.out⟩
                  case measure => simp [intOf]; omega
      · by_cases hlt : i < len
        · have i1 : (i : Int) < (len : Int) := by omega
          have i2 : ¬ (i : Int) < 60 := by omega
          have RR := Lib.hid R
          clear R
          go_wp2_with fail
          go_meet
          case rel => exact ⟨G, m, RR.out⟩
        · have i1 : ¬ (i : Int) < (len : Int) := by omega
          have RR := Lib.hid R
          clear R
          go_wp2_with fail
          go_meet
          case rel => exact ⟨G, m, RR.out⟩
  case rest =>
    obtain ⟨G, m, R⟩ := hcut
    generalize hwc : wc = wd at *
    clear hwc HR0 HR
    have SW := sweepV_c R.view R.ok tt (some ⟨s, 0, none⟩) (fun i => (G i).xs) R.set.logs (by omega) (by omega)
    have HSW := Lib.hid SW
    have RR := Lib.hid R
    clear SW R
    generalize hrv : catL (fun i => (G i).xs) 4 = rv at *
    have HRV := Lib.hid hrv
    clear hrv
    go_wp2_with fail
    refine HSW.out.mono ?_
    rintro e w3 ⟨A3, n3, c3, rfl, -, V3, hT3⟩
    have hmem : ∀ q ∈ m.filter (fun q => !goneB tt rv q.2), goneB tt rv q.2 = false := fun q hq => left_stays hq
    have R3 := RR.out.view' V3 (RR.out.ok.sub (fun p hp => (List.mem_filter.1 hp).1)) (fun p hp => RR.out.since p (List.mem_filter.1 hp).1) hT3
    have hnone := @gone_none m (goneB tt rv)
    have hm3 := R3.view.le
    have HMEM := Lib.hid hmem
    have HNONE := Lib.hid hnone
    have HR3 := Lib.hid R3
    clear V3 hT3 R3 RR hmem hnone
    generalize m.filter (fun q => !goneB tt rv q.2) = m3 at *
    have AL := Lib.hid (allV_c HR3.out.view HR3.out.ok.wf)
    go_wp2_with fail
    refine AL.out.mono ?_
    rintro e w4 ⟨D, c4, rfl, o4, hT4⟩
    have HO4 := Lib.hid o4
    have R4 := Lib.hid (HR3.out.turn0 hT4)
    clear o4 hT4 HR3 AL
    go_wp2_with fail
    go_loopw [17] (fun kx wr => ∃ k : Nat, k ≤ m3.length ∧ kx = .int .i64 ((k : Nat) : Int) ∧ Turn [] w4 wr) (fun kx _ => m3.length - (intOf kx).toNat)
    case atStart => exact ⟨0, by omega, rfl, Turn.refl _ _⟩
    case round =>
      obtain ⟨k, hk, rfl, hTk⟩ := hrel
      obtain ⟨wy, rfl⟩ : ∃ wo : World, wo = wr := ⟨_, rfl⟩
      have k0 : (0 : Int) ≤ (k : Int) := Int.natCast_nonneg _
      by_cases hkl : k < m3.length
      · have k1 : (k : Int) < (m3.length : Int) := by omega
        have hkl2 : k < (m3.map (·.2)).length := by simpa using hkl
        obtain ⟨bw, ow, rfl, lw, X1⟩ := ecs_at ((Sl.of_own HO4.out).turn0 hTk) hkl2
        have hget : (m3.map (·.2))[k] = m3[k].2 := by simp
        rw [hget] at X1
        have hg := HMEM.out _ (List.getElem_mem hkl)
        have hsn := R4.out.since _ (List.getElem_mem hkl)
        clear hget
        generalize m3[k].2 = ev at *
        obtain ⟨⟨a1, a2, a3, a4⟩, dn, hd, sn, ic⟩ := ev
        obtain ⟨y0, y1, y2, y3, y4, y5, y6, y7⟩ := X1
        unfold goneB at hg
        simp only [Bool.or_eq_false_iff, Bool.and_eq_false_iff] at hg
        simp only at y0 y1 y2 y3 y4 y5 y6 y7 hsn
        obtain ⟨g1, g2, g3⟩ := hg
        have EX := expired_c a1 a2 a3 a4 tt wy
        rw [g2] at EX
        have HEX := Lib.hid EX
        have HS := Lib.hid (fun wz (hz : Turn [] wy wz) => by
          have := hasS_c ((R4.out.turn0 (hTk.trans hz)).set.logs) a4
          rw [HRV.out, g3] at this
          exact this)
        clear EX g2 g3
        go_wp2_with fail
        refine HEX.out.mono ?_
        rintro e w5 ⟨rfl, hT5⟩
        have z3 := (hT5.cell (p := ⟨bw, ow + k * 8 + 3, none⟩) lw (by simp)).trans y3
        have zl := Nat.lt_of_lt_of_le lw hT5.size
        have HS5 := Lib.hid (HS.out _ hT5)
        go_wp2_with fail
        refine HS5.out.mono ?_
        rintro e w6 ⟨rfl, hT6⟩
        have T56 := hT5.trans hT6
        have u4 := (T56.cell (p := ⟨bw, ow + k * 8 + 4, none⟩) lw (by simp)).trans y4
        have u6 := (T56.cell (p := ⟨bw, ow + k * 8 + 6, none⟩) lw (by simp)).trans y6
        have ul := Nat.lt_of_lt_of_le lw T56.size
        clear y0 y1 y2 y3 y4 y5 y6 y7 z3 zl
        cases dn with
        | true =>
          have g4 : ¬ sn ≤ tt - 64 := by simpa using g1
          have g5 : ¬ (64 : Int) ≤ tt - sn := by omega
          clear g1
          go_wp2_with fail
          go_roundw
          case rel => exact ⟨k + 1, by omega, by go_num, hTk.trans T56⟩
          case measure => simp [intOf]; omega
        | false =>
          clear g1
          go_wp2_with fail
          go_roundw
          case rel => exact ⟨k + 1, by omega, by go_num, hTk.trans T56⟩
          case measure => simp [intOf]; omega
      · have k1 : ¬ (k : Int) < (m3.length : Int) := by omega
        have R5 := Lib.hid (R4.out.turn0 hTk)
        clear hTk R4 HO4
        go_wp2_with fail
        refine (KC.out _).mono ?_
        rintro e w8 ⟨rfl, hT8⟩
        have R8 := R5.out.turn0 hT8
        have SW := sweepV_c R8.view R8.ok tt (some ⟨s, 0, none⟩) (fun i => (G i).xs) R8.set.logs (by omega) (by omega)
        unfold Swept at SW
        rw [HRV.out, HNONE.out] at SW
        have HSW2 := Lib.hid SW
        have HR8 := Lib.hid R8
        clear SW R8
        go_wp2_with fail
        refine HSW2.out.mono ?_
        rintro e w9 ⟨A9, n9, c9, rfl, o9, -, hT9⟩
        obtain rfl : n9 = 0 := by have := o9.1; rw [ccs_len] at this; simp at this; omega
        have TT := HR8.out.turn.andThen hT9 (fun j hj => by simp at hj; subst hj; exact .inr HR8.out.lows.2.1)
        clear o9
        go_wp2_with fail
        go_ret
        exact ⟨by simp, TT⟩
end Go.Proofs.Ytelagneielahhaa
