/- A net's Send. -/
import Derived.Test.YtiijgokgojjocaaNetSendP
namespace Go.Proofs.Ytiijgokgojjocaa
open Go.RowKit Go.ChangeMaps Go.WideMaps Go.MapKept Go.WideShapes

section
variable {w w' wr wi wf : World} {g d cb kb : Nat} {s s' : Int} {r : Rl} {cut : List (Int × Int)} {came : List ((Int × Int) × Int)} {base : Nat} {A : Option Addr} {n cap : Nat} {ms : List Ml} {sent lost told : Int}
/-- A count of the net is set. -/
theorem NetIs.setSent (h : NetIs w g d cb kb s r cut came base A n cap ms sent lost told) (v : Int) : NetIs (w.setCell ⟨g, 8, none⟩ (.int .i64 v)) g d cb kb s r cut came base A n cap ms v lost told := by
  have hap := h.apart
  have hlow := h.low
  have hA := own_ltA h.row
  have T : Turn [g] w (w.setCell ⟨g, 8, none⟩ (.int .i64 v)) := (Turn.refl [g] w).setCell (.inl (by simp)) _
  obtain ⟨es, k, h1, h2⟩ := h.cutm
  obtain ⟨es', k', h3, h4⟩ := h.camem
  exact ⟨by simpa using h.blk.set_ 8 (.int .i64 v), T.blk h.drw (by simpa using Ne.symm hap.1), ⟨es, k, T.obj h1 (by simpa using Ne.symm hap.2.1), h2⟩, ⟨es', k', T.obj h3 (by simpa using Ne.symm hap.2.2.1), h4⟩,
    own_turnA h.row T (fun i hi hm => by simp at hm; subst hm; have := (hA _ hi).2; omega), h.len, h.le, fun m hm => ⟨(h.mok m hm).1.turn T (fun i hi hm' => by simp at hm'; subst hm'; have := ((h.mok m hm).2 _ hi).1; omega), (h.mok m hm).2⟩, h.apart, h.low, Nat.le_trans h.lo T.size, h.rok⟩
theorem NetIs.setLost (h : NetIs w g d cb kb s r cut came base A n cap ms sent lost told) (v : Int) : NetIs (w.setCell ⟨g, 9, none⟩ (.int .i64 v)) g d cb kb s r cut came base A n cap ms sent v told := by
  have hap := h.apart
  have hlow := h.low
  have hA := own_ltA h.row
  have T : Turn [g] w (w.setCell ⟨g, 9, none⟩ (.int .i64 v)) := (Turn.refl [g] w).setCell (.inl (by simp)) _
  obtain ⟨es, k, h1, h2⟩ := h.cutm
  obtain ⟨es', k', h3, h4⟩ := h.camem
  exact ⟨by simpa using h.blk.set_ 9 (.int .i64 v), T.blk h.drw (by simpa using Ne.symm hap.1), ⟨es, k, T.obj h1 (by simpa using Ne.symm hap.2.1), h2⟩, ⟨es', k', T.obj h3 (by simpa using Ne.symm hap.2.2.1), h4⟩,
    own_turnA h.row T (fun i hi hm => by simp at hm; subst hm; have := (hA _ hi).2; omega), h.len, h.le, fun m hm => ⟨(h.mok m hm).1.turn T (fun i hi hm' => by simp at hm'; subst hm'; have := ((h.mok m hm).2 _ hi).1; omega), (h.mok m hm).2⟩, h.apart, h.low, Nat.le_trans h.lo T.size, h.rok⟩

def Sended (w : World) (g d cb kb : Nat) (s : Int) (r : Rl) (cut : List (Int × Int)) (came : List ((Int × Int) × Int)) (base : Nat) (A : Option Addr) (n : Nat) (ms : List Ml) (sent lost told tick fr : Int) (ls : List Lt) (e : Ending) (w' : World) : Prop :=
  ∃ ms', e = .returned (.int .i64 (ms'.length : Int)) ∧ SRel w g d cb kb s r cut came base A n ms sent lost told tick fr ls ls.length ms' w'

theorem sendAll_len (cut : List (Int × Int)) (r : Rl) (tick fr : Int) (n0 : Nat) (s : Int) (ls : List Lt) : ∀ (j : Nat), j ≤ ls.length → (sendAll cut r tick fr n0 s (ls.take j)).1.length ≤ 2 * j ∧ (sendAll cut r tick fr n0 s (ls.take j)).2.2 ≤ j
  | 0, _ => by simp [sendAll]
  | j + 1, h => by
    have ih := sendAll_len cut r tick fr n0 s ls j (by omega)
    rw [sendAll_snoc cut r tick fr n0 s ls (by omega)]
    have hf := fate_len cut r (sendAll cut r tick fr n0 s (ls.take j)).2.1 tick fr ls[j].dst ls[j].xs
    unfold sendStep
    simp only [List.length_append, List.length_take]
    constructor
    · omega
    · split <;> omega

set_option maxRecDepth 100000 in
set_option maxHeartbeats 8000000 in
theorem send_c (h : NetIs w g d cb kb s r cut came base A n cap ms sent lost told) (tick fr : Int) (L : Option Addr) (nl cl : Nat) (ls : List Lt) (ht0 : 0 ≤ tick) (ht1 : tick ≤ 1073741824) (hfr : wf64 fr) (hL : LtOk w g d A L ls) (hnl : ls.length = nl) (hl6 : nl ≤ 1000000)
    (hs0 : 0 ≤ sent) (hs1 : sent ≤ 1000000000) (ho0 : 0 ≤ lost) (ho1 : lost ≤ 1000000000) :
    Calls Try.prog 9 #[.pointer (some ⟨g, 0, none⟩), .int .i64 tick, .int .i64 fr, .slice L nl cl] w (Sended w g d cb kb s r cut came base A n ms sent lost told tick fr ls) := by
  have HL := Lib.hid hL
  have HNL := Lib.hid hnl
  have S0 : SRel w g d cb kb s r cut came base A n ms sent lost told tick fr ls 0 [] w := ⟨A, cap, by simpa [sendAll] using h, rfl, Turn.refl _ _, fun i hi => .inl hi, fun m hm => by simp at hm⟩
  have hAlt := own_ltA h.row
  have hlow := h.low
  have hlo := h.lo
  have hap := h.apart
  have hlts := h.lts
  clear h hL hnl
  go_enter Try.func9, Try.ntmps9
  go_wp2_with fail
  go_loopw [9, 19] (fun kx ix wr => ∃ j : Nat, j ≤ nl ∧ ix = .int .i64 j ∧ ∃ ms' : List Ml, kx = .int .i64 (ms'.length : Int) ∧ SRel w g d cb kb s r cut came base A n ms sent lost told tick fr ls j ms' wr) (fun _ i _ => nl - (intOf i).toNat)
  case atStart => exact ⟨0, by omega, rfl, [], rfl, S0⟩
  case round =>
    obtain ⟨j, hj, rfl, ms', rfl, R⟩ := hrel
    obtain ⟨w1, rfl⟩ : ∃ wo : World, wo = wr := ⟨_, rfl⟩
    have j0 : (0 : Int) ≤ (j : Int) := Int.natCast_nonneg _
    clear S0
    by_cases hlt : j < nl
    · have i1 : (j : Int) < (nl : Int) := by omega
      have hjl : j < ls.length := by rw [HNL.out]; exact hlt
      obtain ⟨A1, cap1, N1, hpu, T1, hA1, hNW⟩ := R
      have hsl := sendAll_len cut r tick fr n s ls j (by omega)
      have SN := Lib.hid (sendAll_snoc cut r tick fr n s ls hjl)
      have hms : ms'.length ≤ 2 * j := by have := hsl.1; rw [← hpu] at this; simpa using this
      have HPU := Lib.hid hpu
      have HN1 := Lib.hid N1
      have HT1 := Lib.hid T1
      have HA1 := Lib.hid hA1
      have HNW := Lib.hid hNW
      have z01 := T1.size
      have LO := Lib.hid (HL.out.turn T1)
      have hn1 := N1.le
      obtain ⟨bL, oL, rfl, lbL, q0, q1⟩ := lcs_at LO.out.sl hjl
      obtain ⟨hx1, hx2, hx3, hx4, hx5⟩ := LO.out.ok ls[j] (List.getElem_mem hjl)
      have HX1 := Lib.hid hx1
      have HX2 := Lib.hid hx2
      have HX5 := Lib.hid hx5
      have hbL := HL.out.offL (fun e => by rw [e] at hjl; simp at hjl) bL (by simp [blks])
      clear hpu T1 hA1 hNW hx1 hx2 hx5
      generalize ls[j] = l at *
      obtain ⟨dst, B, nb, c, xs⟩ := l
      simp only at q0 q1 hx3 hx4 HX1 HX2 HX5
      generalize sendAll cut r tick fr n s (ls.take j) = st at *
      obtain ⟨al, sj, lc⟩ := st
      simp only at N1 hsl HN1 HPU
      obtain ⟨-, -, -, -, -, -, -, -, c8, c9, -⟩ := N1.cells
      have f8 := N1.blk.frozen 8
      have gl := N1.lts.1
      clear N1
      have HSL := Lib.hid hsl.2
      clear hsl
      have sw : IntKind.i64.wrap (sent + (j : Int) + 1) = sent + (j : Int) + 1 := IntWalk.i64_in _ (by omega)
      go_wp2_with fail
      have T12 : Turn [g] w1 ((w1.setCell ⟨g, 8, none⟩ (.int .i64 (sent + (j : Int) + 1))).alloc (.cells #[.int .i64 dst, .slice B nb c] 29)) := (((Turn.refl [g] w1).setCell (.inl (by simp)) _).alloc _)
      have hlc : (lc : Int) ≤ j := by have := HSL.out; omega
      have N2 := Lib.hid ((HN1.out.setSent (sent + (j : Int) + 1)).turn ((Turn.refl [] _).alloc (.cells #[.int .i64 dst, .slice B nb c] 29)) (by simp))
      clear q0 q1 c8 c9 f8 gl
      generalize (w1.setCell ⟨g, 8, none⟩ (.int .i64 (sent + (j : Int) + 1))).alloc (.cells #[.int .i64 dst, .slice B nb c] 29) = w2 at *
      refine (fates_c N2.out tick fr dst B nb c xs ht0 ht1 hfr hx4 (HX1.out.turnP T12 (fun hne i hi => by simp; exact (HX5.out (fun e => hne (by rw [e]; rfl)) i hi).1)) HX2.out (fun hne i hi => (HX5.out hne i hi).2.1) hx3).mono ?_
      rintro e w3 ⟨O, co, fs, rfl, F, hfp, N3, T23⟩
      have z12 := T12.size
      have z23 := T23.size
      have HF := Lib.hid F
      have HFP := Lib.hid hfp
      have HFN : Hid (∀ m ∈ fs, ∀ i ∈ blks m.A, w.heap.size ≤ i) := fun m hm i hi => by have := (F.lt.2 m hm i hi).2; omega
      have hf2 : fs.length ≤ 2 := by have := fate_len cut r sj tick fr dst xs; rw [← hfp] at this; simpa using this
      have P0 : PRel w3 g d cb kb (fate cut r sj tick fr dst xs).2 r cut came base A1 (n + ms'.length) (ms ++ ms') fs (sent + (j : Int) + 1) (lost + (lc : Int)) told 0 w3 := ⟨A1, cap1, by simpa using N3, Turn.refl _ _, fun i hi => .inl hi⟩
      have hA1l : ∀ i ∈ blks A1, i < w2.heap.size := fun i hi => by have := (own_ltA N2.out.row i hi).1; exact this
      have hbw : base ≤ w2.heap.size := N2.out.lo
      clear hfp N3 F
      generalize hfa : fate cut r sj tick fr dst xs = fa at *
      obtain ⟨fl, s3⟩ := fa
      have HFA := Lib.hid hfa
      simp only at HFP P0
      clear hfa
      go_wp2_with fail
      go_loopw [9, 37] (fun kx ix wi => ∃ i : Nat, i ≤ fs.length ∧ ix = .int .i64 i ∧ kx = .int .i64 ((ms'.length + min i (2048 - (n + ms'.length)) : Nat) : Int) ∧ PRel w3 g d cb kb s3 r cut came base A1 (n + ms'.length) (ms ++ ms') fs (sent + (j : Int) + 1) (lost + (lc : Int)) told i wi) (fun _ i _ => fs.length - (intOf i).toNat)
      case atStart => exact ⟨0, by omega, rfl, by simp, P0⟩
      case round =>
        obtain ⟨i, hi, rfl, rfl, A2, cap2, N4, T34, hA2⟩ := hrel
        obtain ⟨w4, rfl⟩ : ∃ wo : World, wo = wr := ⟨_, rfl⟩
        have ii0 : (0 : Int) ≤ (i : Int) := Int.natCast_nonneg _
        have HN4 := Lib.hid N4
        have HT34 := Lib.hid T34
        have HA2 := Lib.hid hA2
        clear P0
        by_cases hil : i < fs.length
        · have ii1 : (i : Int) < (fs.length : Int) := by omega
          have hOl := HF.out.lt.1
          have gO : ∀ k ∈ blks O, k ∉ g :: blks A1 := fun k hk => by
            have h1 := (hOl k hk).2
            simp
            exact ⟨by omega, fun hm => by have := hA1l k hm; omega⟩
          obtain ⟨bO, oO, rfl, lbO, m0, m1, m2, m3⟩ := mcs_at ((Sl.of_own HF.out.row).turn T34 (off_blks gO)) hil
          have hmf : fs[i] ∈ fs := List.getElem_mem hil
          obtain ⟨hmok, hmb⟩ := HF.out.ok hmf
          have hmok4 : MlOk w4 fs[i] := hmok.turn T34 (fun k hk => by
            have h1 := (hmb k hk).1
            simp
            exact ⟨by omega, fun hm => by have := hA1l k hm; omega⟩)
          have T45 := (Turn.refl [] w4).alloc (.cells #[.int .i64 fs[i].due, .int .i64 fs[i].fr, .int .i64 fs[i].dst, .slice fs[i].A fs[i].n fs[i].c] 34)
          have PS := Lib.hid (fun (e : Ending) (w6 : World) hp => PRel.step (w3 := w6) HF.out hbw hA1l hil HN1.out.le HN4.out HT34.out HA2.out T45 (e := e) hp (fun {w7} hT => (HN4.out.turn T45 (by simp)).turn hT (by simp)))
          have PT := Lib.hid (put_c (HN4.out.turn T45 (by simp)) fs[i].due fs[i].fr fs[i].dst fs[i].A fs[i].n fs[i].c fs[i].xs (hmok4.turn T45 (by simp)) (fun k hk => ⟨by have := (hmb k hk).1; omega, fun hm => by
            rcases HA2.out k hm with h1 | h1
            · have := hA1l k h1; have := (hmb k hk).1; omega
            · have := hmok.lt k hk; omega⟩))
          clear hmok hmb hmok4 hmf N4 T34 hA2 hOl
          go_wp2_with fail
          refine PT.out.mono ?_
          intro e w6 hp
          obtain ⟨rfl, PR⟩ := PS.out e w6 hp
          clear hp
          by_cases hroom : i < 2048 - (n + ms'.length)
          · have hdd : decide (i < 2048 - (n + ms'.length)) = true := by simpa using hroom
            rw [hdd]
            have hq : ms'.length + min (i + 1) (2048 - (n + ms'.length)) = ms'.length + min i (2048 - (n + ms'.length)) + 1 := by omega
            have HQ := Lib.hid hq
            clear hq hdd
            have hqb : ((ms'.length + min i (2048 - (n + ms'.length)) : Nat) : Int) ≤ 4000000 := by omega
            generalize ms'.length + min i (2048 - (n + ms'.length)) = q at *
            have hq0 : (0 : Int) ≤ (q : Int) := Int.natCast_nonneg _
            go_wp2_with fail
            go_roundw
            case rel => exact ⟨i + 1, by omega, by go_num, by rw [HQ.out]; go_num, PR⟩
            case measure => simp [intOf]; omega
          · have hdd : decide (i < 2048 - (n + ms'.length)) = false := by simpa using hroom
            rw [hdd]
            have hq : ms'.length + min (i + 1) (2048 - (n + ms'.length)) = ms'.length + min i (2048 - (n + ms'.length)) := by omega
            have HQ := Lib.hid hq
            clear hq hdd
            generalize ms'.length + min i (2048 - (n + ms'.length)) = q at *
            go_wp2_with fail
            go_roundw
            case rel => exact ⟨i + 1, by omega, by go_num, by rw [HQ.out], PR⟩
            case measure => simp [intOf]; omega
        · obtain rfl : i = fs.length := by omega
          have ii1 : ¬ (fs.length : Int) < (fs.length : Int) := by omega
          have hmn : ms'.length + min fs.length (2048 - (n + ms'.length)) = (ms' ++ fs.take (min fs.length (2048 - (n + ms'.length)))).length := by rw [List.length_append, List.length_take]; omega
          have HMN := Lib.hid hmn
          have T14 : Turn (g :: d :: blks A1) w1 w4 := ((T12.mono (by intro i hi; simp at hi; simp [hi])).trans (T23.mono (by intro i hi; simp at hi; simp [hi]))).trans (HT34.out.mono (by intro i hi; simp at hi; rcases hi with hi | hi <;> simp [hi]))
          have hA24 : ∀ i ∈ blks A2, i ∈ blks A1 ∨ w1.heap.size ≤ i := fun i hi => by
            rcases HA2.out i hi with h1 | h1
            · exact .inl h1
            · exact .inr (by omega)
          have HA24 := Lib.hid hA24
          have HT14 := Lib.hid T14
          clear hmn hA24 T14
          by_cases hp0 : min fs.length (2048 - (n + ms'.length)) = 0
          · have hq : ms'.length + min fs.length (2048 - (n + ms'.length)) = ms'.length := by omega
            rw [hq] at HMN
            rw [hq]
            obtain ⟨-, -, -, -, -, -, -, -, -, c9, -⟩ := HN4.out.cells
            have f9 := HN4.out.blk.frozen 9
            have gl := HN4.out.lts.1
            have sw2 : IntKind.i64.wrap (lost + (lc : Int) + 1) = lost + (lc : Int) + 1 := IntWalk.i64_in _ (by omega)
            have S4 := Lib.hid (SRel.next HPU.out HFP.out SN.out HFA.out (HN4.out.setLost (lost + (lc : Int) + 1)) (by rw [if_pos hp0]) HT1.out HA1.out (HT14.out.trans ((Turn.refl (g :: d :: blks A1) w4).setCell (.inl (by simp)) _)) HA24.out HNW.out HFN.out)
            clear hq hp0
            generalize ms'.length = q at *
            go_wp2_with fail
            go_roundw
            case rel => exact ⟨j + 1, by omega, by go_num, _, by rw [← HMN.out], S4.out⟩
            case measure => simp [intOf]; omega
          · have NX := Lib.hid (SRel.next HPU.out HFP.out SN.out HFA.out HN4.out (by rw [if_neg hp0, Int.add_zero]) HT1.out HA1.out HT14.out HA24.out HNW.out HFN.out)
            have hne : (((ms'.length + min fs.length (2048 - (n + ms'.length)) : Nat) : Int) == (ms'.length : Int)) = false := by simp; omega
            clear hp0
            generalize ms'.length + min fs.length (2048 - (n + ms'.length)) = q at *
            go_wp2_with fail
            go_roundw
            case rel => exact ⟨j + 1, by omega, by go_num, _, by rw [← HMN.out], NX.out⟩
            case measure => simp [intOf]; omega
    · obtain rfl : j = nl := by omega
      have i1 : ¬ (j : Int) < (j : Int) := by omega
      have HR := Lib.hid R
      clear R
      go_wp2_with fail
      go_ret
      exact ⟨ms', by simp, by rw [HNL.out]; exact HR.out⟩
end
end Go.Proofs.Ytiijgokgojjocaa
