/- The walk of the law QuotaPlays. -/
import Derived.Test.YtjjhmedbekfkoaaSenders
import Derived.Test.YtjjhmedbekfkoaaTry
import Derived.Test.YtjjhmedbekfkoaaQDrop
namespace Go.Proofs.Ytjjhmedbekfkoaa
open Go.RowKit Go.ChangeMaps

theorem own_slT {w w' : World} {base n cap size : Nat} {e : TypeId} {A : Option Addr} {xs : List Value} (h : w.ownsRow base e size (.slice A n cap) n xs) (hT : Turn [] w w') : Sl w' A xs := (Sl.of_own h).turn0 hT
structure QPRel (w : World) (times : Int) (k : Nat) (q bm : Nat) (base : Nat) (m : QM) (L : Option Addr) (nl cl : Nat) (T : TL) (wr : World) : Prop where
  qs : QIs wr q bm times m
  row : wr.ownsRow base 46 2 (.slice L nl cl) nl (tcs T)
  tlen : T.length = nl
  len : nl ≤ k
  ok : PlOk m T
  turn : Turn [] w wr
  lo : base ≤ wr.heap.size

set_option maxRecDepth 100000 in
set_option maxHeartbeats 8000000 in
theorem qplays_walk (times : Int) (B : Option Addr) (len cap : Nat) (F : Nat → Nat → Int) (sender tick : Int) (w : World) (hR : Rows w B len 3 F) (hlm : len ≤ maxLen) (htk : tick ≤ 9223372036854775807) :
    Calls Try.prog 6 #[.int .i64 times, .slice B len cap, .int .i64 sender, .int .i64 tick] w fun e w' => e = .returned (.bool true) ∧ Turn [] w w' := by
  unfold maxLen at hlm
  have HRR := Lib.hid hR
  clear hR
  by_cases ht : times < 1 ∨ 255 < times
  · have NW := Lib.hid (new_no times w ht)
    by_cases ht1 : times < 1
    · clear ht
      go_enter Try.func6, Try.ntmps6
      go_wp2_with fail
      refine NW.out.mono ?_
      rintro e w1 ⟨rfl, rfl⟩
      go_wp2_with fail
      refine (known_c _).mono ?_
      rintro e w5 ⟨rfl, hT5⟩
      go_wp2_with fail
      go_ret
      exact ⟨by simp, hT5⟩
    have ht2 : 255 < times := by omega
    clear ht
    go_enter Try.func6, Try.ntmps6
    go_wp2_with fail
    refine NW.out.mono ?_
    rintro e w1 ⟨rfl, rfl⟩
    go_wp2_with fail
    refine (known_c _).mono ?_
    rintro e w5 ⟨rfl, hT5⟩
    go_wp2_with fail
    go_ret
    exact ⟨by simp, hT5⟩
  · go_enter Try.func6, Try.ntmps6
    go_wp2_with fail
    refine (new_e times _ (by omega) (by omega)).mono ?_
    rintro e w1 ⟨q, bm, rfl, hq, l1, l2, hT1⟩
    have hql := hq.lt
    have hz1 := hT1.size
    have g1 : ¬ times < 1 := by omega
    have g2 : ¬ 255 < times := by omega
    clear ht
    have QT := Lib.hid (qtimes_c q bm times [] w1 hq)
    go_wp2_with fail
    refine QT.out.mono ?_
    rintro e w2 ⟨rfl, rfl⟩
    go_wp2_with fail
    go_loopw [11, 12] (fun lt i wr => ∃ k : Nat, k ≤ len ∧ k ≤ 60 ∧ i = .int .i64 k ∧ ∃ m L nl cl T, lt = .slice L nl cl ∧ QPRel w times k q bm w2.heap.size m L nl cl T wr) (fun _ i _ => 61 - (intOf i).toNat)
    case atStart => exact ⟨0, by omega, by omega, rfl, [], none, 0, 0, [], rfl, ⟨hq, World.ownsRow_nil _ _ _ _, rfl, by omega, PlOk.nil, hT1, Nat.le_refl _⟩⟩
    case round =>
      obtain ⟨k, hk, hk60, rfl, m, L, nl, cl, T, rfl, R⟩ := hrel
      have i0 : (0 : Int) ≤ (k : Int) := Int.natCast_nonneg _
      by_cases hgo : k < len ∧ k < 60
      · obtain ⟨hlt, hlt60⟩ := hgo
        have i1 : (k : Int) < (len : Int) := by omega
        have i2 : (k : Int) < 60 := by omega
        obtain ⟨bl, off, rfl, hbl, hcc⟩ := HRR.out (by omega)
        have q0 := (R.turn.cell (p := ⟨bl, off + k * 3, none⟩) hbl (by simp)).trans (hcc k hlt 0 (by omega)).1
        have q1 := (R.turn.cell (p := ⟨bl, off + k * 3 + 1, none⟩) hbl (by simp)).trans (hcc k hlt 1 (by omega)).1
        have q2 := (R.turn.cell (p := ⟨bl, off + k * 3 + 2, none⟩) hbl (by simp)).trans (hcc k hlt 2 (by omega)).1
        have wf1 := (hcc k hlt 1 (by omega)).2
        have wf2 := (hcc k hlt 2 (by omega)).2
        have lbl := Nat.lt_of_lt_of_le hbl R.turn.size
        clear hcc
        generalize F k 0 = kd at *
        generalize F k 1 = s at *
        generalize F k 2 = t at *
        obtain ⟨wc, rfl⟩ : ∃ wo : World, wo = wr := ⟨_, rfl⟩
        have wA0 := 0
        have TA := (Turn.refl [] wc).alloc (.cells #[.int .i64 kd, .int .i64 s, .int .i64 t] 30)
        have BA := Blk.new wc 30 #[.int .i64 kd, .int .i64 s, .int .i64 t]
        have TWA := R.turn.trans TA
        have QA := R.qs.turn TA (by simp) (by simp)
        have RA := own_turnA R.row TA (by simp)
        have zA : (wc.alloc (.cells #[.int .i64 kd, .int .i64 s, .int .i64 t] 30)).heap.size = wc.heap.size + 1 := by simp
        have hml := QA.ok.len
        have hql := R.qs.lt
        have hLb := own_ltA R.row
        have hzR := R.turn.size
        have hlo := R.lo
        have htl := R.tlen
        have hnl := R.len
        have ht4 : t ≤ 9223372036854775807 := by simp [Lit.wf, IntKind.min, IntKind.max, IntKind.signed, IntKind.bits] at wf2; omega
        go_wp2_with fail
        · as_aux_lemma =>
            generalize wc.alloc (.cells #[.int .i64 kd, .int .i64 s, .int .i64 t] 30) = wA at *
            have A1 : ∀ {S : List Nat} (wz : World), Turn S wA wz → wc.heap.size ∉ S → wz.cell? ⟨wc.heap.size, 1, none⟩ = some (.int .i64 s) ∧ wc.heap.size < wz.heap.size := fun wz hz hn => ⟨(hz.blk BA hn).cell 1, (hz.blk BA hn).lt⟩
            have KN := knownT_c L nl cl T s wA (Sl.of_own RA) htl (by omega)
            rw [R.ok.known] at KN
            have QD := Lib.hid (fun (wy : World) (hy : Turn [] wA wy) (hz : wc.heap.size + 1 < wy.heap.size) (hs : Sl wy (some ⟨wc.heap.size + 1, 0, none⟩) (i64s [s, s])) => qdrop_c q bm times m (some ⟨wc.heap.size + 1, 0, none⟩) 2 2 [s, s] wy (QA.turn hy (by simp) (by simp)) hs rfl (by omega) (by simp [blks]; omega) (by intro y hy; simp at hy; subst hy; exact wf1))
            have hkk : qdel m [s, s] = kdel m s := by
              show kdel (kdel m s) s = kdel m s
              exact kdel_absent kget_kdel_same
            rw [hkk] at QD
            have RD := Lib.hid (fun (wy : World) (hs : Sl wy L (tcs T)) => dropT_c L nl cl T s wy hs htl (by omega))
            clear hkk
            obtain ⟨c1, lc⟩ := A1 wA (Turn.refl [] wA) (by simp)
            have PD := R.ok.drop QA.ok.rises s
            have hfl : (T.filter (fun x => x.1 != s)).length ≤ T.length := List.length_filter_le _ _
            generalize lastL T s = kp at *
            have hcase : ((kget m s).isSome = false ∧ (m.length : Int) - ((kdel m s).length : Int) = 0) ∨ ((kget m s).isSome = true ∧ (m.length : Int) - ((kdel m s).length : Int) = 1) := by
              cases hg : kget m s with
              | none => left; rw [kdel_absent hg]; exact ⟨rfl, by omega⟩
              | some a => right; have := kdel_length QA.ok.rises (show kget m s ≠ none by rw [hg]; simp); exact ⟨rfl, by omega⟩
            generalize (kget m s).isSome = ib at *
            generalize kdel m s = md at *
            have KNH := Lib.hid KN
            have HR := Lib.hid R
            clear KN R
            refine KNH.out.mono ?_
            rintro e w3 ⟨rfl, rfl⟩
            go_wp2_with fail
            refine (QD.out _ ((Turn.refl [] w3).alloc _) (by simp; omega) (by have h9 := Sl.new w3 #[.int .i64 s, .int .i64 s] 3; rw [zA] at h9; exact h9)).mono ?_
            rintro e w4 ⟨rfl, hQ4, hT4⟩
            have TA4 : Turn [bm] w3 w4 := ((Turn.refl [bm] w3).alloc (.cells #[.int .i64 s, .int .i64 s] 3)).trans hT4
            have hmb : wc.heap.size ∉ [bm] := by simp; omega
            obtain ⟨c4, lc4⟩ := A1 w4 TA4 hmb
            have hLbm : ∀ i ∈ blks L, i ∉ [bm] := fun i hi hm => by simp at hm; have := (hLb i hi).2; omega
            have sM4 := (Sl.of_own RA).turn TA4 (off_blks hLbm)
            have z4 := TA4.size
            have TW4 : Turn [] w w4 := TWA.andThen TA4 (fun i hi => by right; simp at hi; omega)
            rcases hcase with ⟨h1, h2⟩ | ⟨h1, h2⟩
            all_goals
              subst h1
              rw [h2]
              go_wp2_with fail
              refine (RD.out w4 sM4).mono ?_
              rintro e w5 ⟨D, nd, cd, rfl, oD, hT5⟩
              have hlD : (T.filter (fun x => x.1 != s)).length = nd := by have := oD.1; rw [tcs_len] at this; omega
              go_wp2_with fail
              go_roundw
              case rel => exact ⟨k + 1, by omega, by omega, by go_num, md, D, nd, cd, _, rfl, ⟨hQ4.turn hT5 (by simp) (by simp), own_down oD (by omega), hlD, by omega, PD, TW4.trans hT5, by have := hT5.size; omega⟩⟩
              case measure => simp [intOf]; omega
        · as_aux_lemma =>
            generalize wc.alloc (.cells #[.int .i64 kd, .int .i64 s, .int .i64 t] 30) = wA at *
            have A1 : ∀ (wz : World), Turn [] wA wz → wz.cell? ⟨wc.heap.size, 1, none⟩ = some (.int .i64 s) ∧ wz.cell? ⟨wc.heap.size, 2, none⟩ = some (.int .i64 t) ∧ Turn [] wA wz := fun wz hz => ⟨(hz.blk BA (by simp)).cell 1, (hz.blk BA (by simp)).cell 2, hz⟩
            have L1 : ∀ (wz : World), Turn [] wA wz → wc.heap.size < wz.heap.size := fun wz hz => (hz.blk BA (by simp)).lt
            have CN := Lib.hid (fun (wy : World) (hy : Turn [] wA wy) => by have h9 := count_c L nl cl T wy (own_slT RA hy) htl (by omega); rw [R.ok.cnt QA.ok.rises] at h9; exact h9)
            have TR := Lib.hid (fun (wy : World) (hy : Turn [] wA wy) => by have h9 := try_c L nl cl T s t times m.length wy (own_slT RA hy) htl (by omega) ht4 (by omega); rw [(R.ok.tryL s t).resolve_right (by omega)] at h9; exact h9)
            obtain ⟨c1, c2, -⟩ := A1 wA (Turn.refl [] wA)
            have lc := L1 wA (Turn.refl [] wA)
            have T0 := (Turn.refl [] wA).drew
            have TK := Lib.hid (fun (wy : World) (hy : Turn [] wA wy) => take_c q bm times m s t wy (QA.turn hy (by simp) (by simp)) ht4)
            have hLbm : ∀ i ∈ blks L, i ∉ [bm] := fun i hi hm => by simp at hm; have := (hLb i hi).2; omega
            have hmb : wc.heap.size ∉ [bm] := by simp; omega
            by_cases h0 : (qtake m times s t).1 = 0
            · have PT := R.ok.take QA.ok s t h0
              obtain ⟨r1, r2, r3⟩ := qlook_range (m := m) (s := s) (t := t) (by
                unfold qtake at h0
                split at h0
                · rename_i hh; exact absurd h0 hh
                · rename_i hh; simpa using hh)
              have td : t.tdiv 32 = t / 32 := Int.tdiv_eq_ediv_of_nonneg r3
              have wfd : (Lit.int .i64 (t / 32)).wf = true := by simp [Lit.wf, IntKind.min, IntKind.max, IntKind.signed, IntKind.bits]; omega
              rw [h0] at TK TR
              clear h0
              generalize (qtake m times s t).2 = m' at *
              have HR := Lib.hid R
              clear R
              go_region_held3 (fun w' => w'.cell? ⟨wc.heap.size, 1, none⟩ = some (.int .i64 s) ∧ w'.cell? ⟨wc.heap.size, 2, none⟩ = some (.int .i64 t) ∧ Turn [] wA w') (first | exact A1 _ (by assumption))
                (first
                  | (go_at_call 23; refine (CN.out _ (by assumption)).mono ?_; rintro e w5 ⟨rfl, hT5⟩; have hT5' : Turn [] wA w5 := Turn.trans T0 hT5)
                  | (go_at_call 22; refine (TR.out _ (by assumption)).mono ?_; rintro e w6 ⟨rfl, hT6⟩; have hT6' : Turn [] wA w6 := Turn.trans hT5' hT6))
              obtain ⟨d1, d2, -⟩ := A1 w6 hT6'
              have ld := L1 w6 hT6'
              go_wp2_with fail
              refine (TK.out w6 hT6').mono ?_
              rintro e w7 ⟨rfl, hQ7, hT7⟩
              have c7 := (hT7.blk (hT6'.blk BA (by simp)) hmb).cell 1
              have c8 := (hT7.blk (hT6'.blk BA (by simp)) hmb).cell 2
              have l7 := (hT7.blk (hT6'.blk BA (by simp)) hmb).lt
              have oL7 := own_turnA (own_turnA RA hT6' (by simp)) hT7 hLbm
              have z7 := hT7.size
              have z6 := hT6'.size
              have T7 : Turn [] w w7 := (TWA.trans hT6').andThen hT7 (fun i hi => by right; simp at hi; omega)
              have hlen7 : (T ++ [(s, t / 32)]).length = nl + 1 := by rw [List.length_append, htl]; rfl
              go_wp2_with (at_builtin; go_must (refine wpList_append_sl elemT rfl _ _ rfl L nl cl _ rfl (oL7.alloc _) (some ⟨w7.heap.size, 0, none⟩) 1 1 [.int .i64 s, .int .i64 (t / 32)] rfl (Sl.new _ #[.int .i64 s, .int .i64 (t / 32)] _) (by simp) (by simp [Value.oneCell']) (by omega) (by omega) (by simp; omega) ?_); intro L2 cl2 w8 own8 hg8 hlie8)
              have g8 := grown_turn hg8
              have z8 := hg8.size
              have hz8 : w7.heap.size ≤ w8.heap.size := by rw [World.size_alloc] at z8; omega
              go_roundw
              case rel => exact ⟨k + 1, by omega, by omega, by go_num, m', L2, nl + 1, cl2, _, rfl, ⟨(hQ7.turn ((Turn.refl [] w7).alloc _) (by simp) (by simp)).turn g8 (fun hm => by have := (hLb _ hm).2; omega) (fun hm => by have := (hLb _ hm).2; omega), by rw [tcs_append]; exact own8, hlen7, by omega, PT, (T7.alloc _).andThen g8 (fun i hi => .inr (by have := (hLb i hi).2; omega)), by omega⟩⟩
              case measure => simp [intOf]; omega
            · have h0' : ((qtake m times s t).1 == 0) = false := by simpa using h0
              have hsame := qtake_same h0
              rw [hsame] at TK
              generalize (qtake m times s t).1 = ev at *
              clear h0 hsame
              have HR := Lib.hid R
              clear R
              go_region_held3 (fun w' => w'.cell? ⟨wc.heap.size, 1, none⟩ = some (.int .i64 s) ∧ w'.cell? ⟨wc.heap.size, 2, none⟩ = some (.int .i64 t) ∧ Turn [] wA w') (first | exact A1 _ (by assumption))
                (first
                  | (go_at_call 23; refine (CN.out _ (by assumption)).mono ?_; rintro e w5 ⟨rfl, hT5⟩; have hT5' : Turn [] wA w5 := Turn.trans T0 hT5)
                  | (go_at_call 22; refine (TR.out _ (by assumption)).mono ?_; rintro e w6 ⟨rfl, hT6⟩; have hT6' : Turn [] wA w6 := Turn.trans hT5' hT6))
              obtain ⟨d1, d2, -⟩ := A1 w6 hT6'
              have ld := L1 w6 hT6'
              go_wp2_with fail
              refine (TK.out w6 hT6').mono ?_
              rintro e w7 ⟨rfl, hQ7, hT7⟩
              have c7 := (hT7.blk (hT6'.blk BA (by simp)) hmb).cell 1
              have oL7 := own_turnA (own_turnA RA hT6' (by simp)) hT7 hLbm
              have z7 := hT7.size
              have z6 := hT6'.size
              have T7 : Turn [] w w7 := (TWA.trans hT6').andThen hT7 (fun i hi => by right; simp at hi; omega)
              go_wp2_with fail
              go_roundw
              case rel => exact ⟨k + 1, by omega, by omega, by go_num, m, L, nl, cl, _, rfl, ⟨hQ7, oL7, htl, by omega, HR.out.ok, T7, by omega⟩⟩
              case measure => simp [intOf]; omega
      · by_cases hkl : k < len
        · have i1 : (k : Int) < (len : Int) := by omega
          have i2 : ¬ (k : Int) < 60 := by omega
          as_aux_lemma =>
            have PL := R.ok
            have rises := R.qs.ok.rises
            have qn := qlook_n0 (s := sender) (t := tick) R.qs.ok
            have ht0 := R.qs.ok.t0
            have ht1 := R.qs.ok.t1
            have hml := R.qs.ok.len
            have hnl := R.len
            have LK := lookT_c L nl cl T sender tick wr (Sl.of_own R.row) R.tlen (by omega) htk
            rw [PL.look] at LK
            have TI := Lib.hid (times_c L nl cl T sender (tick / 32) wr (Sl.of_own R.row) R.tlen (by omega))
            have SN := Lib.hid (fun (wy : World) (hy : Turn [] wr wy) => senders_c q bm times m wy (R.qs.turn hy (by simp) (by simp)))
            have CN := fun (wy : World) (hy : Turn [] wr wy) => count_c L nl cl T wy (own_slT R.row hy) R.tlen (by omega)
            rw [PL.cnt rises] at CN
            have LF := Lib.hid (fun (wy : World) (hy : Turn [] wr wy) => left_c q bm times m sender tick wy (R.qs.turn hy (by simp) (by simp)) htk)
            have KNT := Lib.hid (fun (wy : World) (hy : Turn [] wr wy) (s : Int) => knownT_c L nl cl T s wy (own_slT R.row hy) R.tlen (by omega))
            have hlv : (qlook m sender tick).2 = 0 → times - (timesL T sender (tick / 32) : Int) = qleft m times sender tick ∧ 0 ≤ tick ∧ IntKind.i64.wrap (times - (timesL T sender (tick / 32) : Int)) = times - (timesL T sender (tick / 32) : Int) := fun h0 => by
              obtain ⟨h1, h2, h3⟩ := qlook_range h0
              have h4 : ((kget m sender).getD (0, 0)).1 ≤ tick / 32 ∧ (qlook m sender tick).1.2 = atN ((kget m sender).getD (0, 0)).1 ((kget m sender).getD (0, 0)).2 (tick / 32) := by
                unfold qlook at h0 ⊢
                split at h0
                · simp at h0
                · split at h0
                  · simp at h0
                  · rename_i g1 g2
                    rw [if_neg g1, if_neg g2]
                    exact ⟨by omega, rfl⟩
              have h5 := PL.times sender (tick / 32) h4.1
              rw [← h4.2] at h5
              unfold qleft
              rw [if_neg (by simpa using h0), h5]
              exact ⟨rfl, h3, IntWalk.i64_in _ (by omega)⟩
            have hln : (qlook m sender tick).2 ≠ 0 → qleft m times sender tick = 0 := fun h => by unfold qleft; rw [if_pos h]
            have KEYK : ∀ x ∈ List.map (·.1) m, knownL T x = true := fun x hx => by
              rw [PL.known]
              obtain ⟨y, hy, rfl⟩ := List.mem_map.1 hx
              rw [kget_of_mem rises (k := y.1) (v := y.2) hy]
              rfl
            have RISE : (List.map (·.1) m).Pairwise (· < ·) := by rw [List.pairwise_map]; exact rises
            have KLEN : (List.map (·.1) m).length = m.length := List.length_map ..
            generalize List.map (·.1) m = kn at *
            generalize qleft m times sender tick = lf at *
            generalize timesL T sender (tick / 32) = tl at *
            generalize (qlook m sender tick).2 = lk at *
            have HR := Lib.hid R
            have HKEY := Lib.hid KEYK
            have HRISE := Lib.hid RISE
            have HKL := Lib.hid KLEN
            have HCN := Lib.hid CN
            have HLK := Lib.hid LK
            clear R PL rises qn KEYK RISE KLEN CN LK
            go_wp2_with fail
            refine HLK.out.mono ?_
            rintro e w3 ⟨rfl, rfl⟩
            by_cases hlk : lk = 0
            · obtain ⟨hlf, tk0, hwr⟩ := hlv hlk
              have td : tick.tdiv 32 = tick / 32 := Int.tdiv_eq_ediv_of_nonneg tk0
              have wfd : (Lit.int .i64 (tick / 32)).wf = true := by simp [Lit.wf, IntKind.min, IntKind.max, IntKind.signed, IntKind.bits]; omega
              subst hlk
              clear hlv hln
              go_wp2_with fail
              refine TI.out.mono ?_
              rintro e w4 ⟨rfl, hT4⟩
              rw [hlf] at hwr
              go_wp2_with fail
              refine (SN.out w4 hT4).mono ?_
              rintro e w5 ⟨D, nn, cd, rfl, oN, hT5⟩
              have T5 := hT4.trans hT5
              have hnn : kn.length = nn := by have := oN.1; rw [i64s_len] at this; omega
              have HNN := Lib.hid hnn
              have hmn : m.length = nn := by rw [← hnn, HKL.out]
              have CNn := Lib.hid (HCN.out w5 T5)
              rw [hmn] at CNn
              have sN := Sl.of_own oN
              clear hmn hnn oN
              go_wp2_with fail
              refine CNn.out.mono ?_
              rintro e w6 ⟨rfl, hT6⟩
              have T6 := T5.trans hT6
              have sN6 := sN.turn0 hT6
              go_wp2_with fail
              refine (LF.out w6 T6).mono ?_
              rintro e w7 ⟨rfl, hT7⟩
              have T7 := T6.trans hT7
              have sN7 := sN6.turn0 hT7
              have hn16 : nn ≤ 16 := by have h1 := HNN.out; have h2 := HKL.out; omega
              go_wp2_with fail
              go_loopw [20] (fun i wz => ∃ x : Nat, x ≤ nn ∧ i = .int .i64 x ∧ Turn [] w7 wz) (fun i _ => 17 - (intOf i).toNat)
              case atStart => exact ⟨0, by omega, rfl, Turn.refl _ _⟩
              case round =>
                obtain ⟨x, hx, rfl, hTx⟩ := hrel
                obtain ⟨wx, rfl⟩ : ∃ wo : World, wo = wr := ⟨_, rfl⟩
                have x0 : (0 : Int) ≤ (x : Int) := Int.natCast_nonneg _
                by_cases hxl : x < nn
                · have x1 : (x : Int) < (nn : Int) := by omega
                  have xk : x < kn.length := by rw [HNN.out]; exact hxl
                  obtain ⟨bN, oNN, eN, lN, v0⟩ := i64s_at (sN7.turn0 hTx) xk
                  have hin := HKEY.out kn[x] (List.getElem_mem xk)
                  have KNn := KNT.out wx (T7.trans hTx) kn[x]
                  rw [hin] at KNn
                  have KNN := Lib.hid KNn
                  clear hin KNn
                  cases x with
                  | zero =>
                    generalize kn[0] = av at *
                    subst eN
                    have v2 := v0
                    rw [Nat.add_zero] at v2
                    go_wp2_with fail
                    refine KNN.out.mono ?_
                    rintro e w8 ⟨rfl, rfl⟩
                    go_wp2_with fail
                    go_quiet (fail)
                    go_wp2_with fail
                    go_roundw
                    case rel => exact ⟨0 + 1, by omega, by go_num, hTx.drewN _⟩
                    case measure => simp [intOf]
                  | succ xm =>
                    have xp : xm < kn.length := by omega
                    obtain ⟨bN2, oNN2, eN2, lN2, v1⟩ := i64s_at (sN7.turn0 hTx) xp
                    have hlt2 : kn[xm] < kn[xm + 1] := List.pairwise_iff_getElem.1 HRISE.out xm (xm + 1) xp xk (by omega)
                    generalize kn[xm + 1] = av at *
                    generalize kn[xm] = bv at *
                    subst eN
                    cases eN2
                    have x2 : (0 : Int) < (xm : Int) + 1 := by omega
                    have x3 : (0 : Int) ≤ (xm : Int) := Int.natCast_nonneg _
                    have x4 : (xm : Int) < (nn : Int) := by omega
                    have x6 : (xm : Int) + 1 < (nn : Int) := by omega
                    have x5 : ¬ av ≤ bv := by omega
                    go_wp2_with fail
                    refine KNN.out.mono ?_
                    rintro e w8 ⟨rfl, rfl⟩
                    go_wp2_with fail
                    go_quiet (fail)
                    go_wp2_with fail
                    go_roundw
                    case rel => exact ⟨xm + 1 + 1, by omega, by go_num, hTx.drewN _⟩
                    case measure => simp [intOf]; omega
                · obtain rfl : x = nn := by omega
                  have x1 : ¬ (x : Int) < (x : Int) := by omega
                  go_wp2_with fail
                  refine (known_c _).mono ?_
                  rintro e w8 ⟨rfl, hT8⟩
                  go_wp2_with fail
                  go_ret
                  exact ⟨by simp, HR.out.turn.trans ((T7.trans hTx).trans hT8)⟩
            · have hlk' : (lk == 0) = false := by simpa using hlk
              have hlf := hln hlk
              have hT4 := Turn.refl [] w3
              obtain ⟨w4, hw4⟩ : ∃ wo : World, wo = w3 := ⟨_, rfl⟩
              rw [← hw4] at hT4
              clear hlv hln hlk
              go_wp2_with fail
              subst hw4
              refine (SN.out _ hT4).mono ?_
              rintro e w5 ⟨D, nn, cd, rfl, oN, hT5⟩
              have T5 := hT4.trans hT5
              have hnn : kn.length = nn := by have := oN.1; rw [i64s_len] at this; omega
              have HNN := Lib.hid hnn
              have hmn : m.length = nn := by rw [← hnn, HKL.out]
              have CNn := Lib.hid (HCN.out w5 T5)
              rw [hmn] at CNn
              have sN := Sl.of_own oN
              clear hmn hnn oN
              go_wp2_with fail
              refine CNn.out.mono ?_
              rintro e w6 ⟨rfl, hT6⟩
              have T6 := T5.trans hT6
              have sN6 := sN.turn0 hT6
              go_wp2_with fail
              refine (LF.out w6 T6).mono ?_
              rintro e w7 ⟨rfl, hT7⟩
              have T7 := T6.trans hT7
              have sN7 := sN6.turn0 hT7
              have hn16 : nn ≤ 16 := by have h1 := HNN.out; have h2 := HKL.out; omega
              go_wp2_with fail
              go_loopw [20] (fun i wz => ∃ x : Nat, x ≤ nn ∧ i = .int .i64 x ∧ Turn [] w7 wz) (fun i _ => 17 - (intOf i).toNat)
              case atStart => exact ⟨0, by omega, rfl, Turn.refl _ _⟩
              case round =>
                obtain ⟨x, hx, rfl, hTx⟩ := hrel
                obtain ⟨wx, rfl⟩ : ∃ wo : World, wo = wr := ⟨_, rfl⟩
                have x0 : (0 : Int) ≤ (x : Int) := Int.natCast_nonneg _
                by_cases hxl : x < nn
                · have x1 : (x : Int) < (nn : Int) := by omega
                  have xk : x < kn.length := by rw [HNN.out]; exact hxl
                  obtain ⟨bN, oNN, eN, lN, v0⟩ := i64s_at (sN7.turn0 hTx) xk
                  have hin := HKEY.out kn[x] (List.getElem_mem xk)
                  have KNn := KNT.out wx (T7.trans hTx) kn[x]
                  rw [hin] at KNn
                  have KNN := Lib.hid KNn
                  clear hin KNn
                  cases x with
                  | zero =>
                    generalize kn[0] = av at *
                    subst eN
                    have v2 := v0
                    rw [Nat.add_zero] at v2
                    go_wp2_with fail
                    refine KNN.out.mono ?_
                    rintro e w8 ⟨rfl, rfl⟩
                    go_wp2_with fail
                    go_quiet (fail)
                    go_wp2_with fail
                    go_roundw
                    case rel => exact ⟨0 + 1, by omega, by go_num, hTx.drewN _⟩
                    case measure => simp [intOf]
                  | succ xm =>
                    have xp : xm < kn.length := by omega
                    obtain ⟨bN2, oNN2, eN2, lN2, v1⟩ := i64s_at (sN7.turn0 hTx) xp
                    have hlt2 : kn[xm] < kn[xm + 1] := List.pairwise_iff_getElem.1 HRISE.out xm (xm + 1) xp xk (by omega)
                    generalize kn[xm + 1] = av at *
                    generalize kn[xm] = bv at *
                    subst eN
                    cases eN2
                    have x2 : (0 : Int) < (xm : Int) + 1 := by omega
                    have x3 : (0 : Int) ≤ (xm : Int) := Int.natCast_nonneg _
                    have x4 : (xm : Int) < (nn : Int) := by omega
                    have x6 : (xm : Int) + 1 < (nn : Int) := by omega
                    have x5 : ¬ av ≤ bv := by omega
                    go_wp2_with fail
                    refine KNN.out.mono ?_
                    rintro e w8 ⟨rfl, rfl⟩
                    go_wp2_with fail
                    go_quiet (fail)
                    go_wp2_with fail
                    go_roundw
                    case rel => exact ⟨xm + 1 + 1, by omega, by go_num, hTx.drewN _⟩
                    case measure => simp [intOf]; omega
                · obtain rfl : x = nn := by omega
                  have x1 : ¬ (x : Int) < (x : Int) := by omega
                  go_wp2_with fail
                  refine (known_c _).mono ?_
                  rintro e w8 ⟨rfl, hT8⟩
                  go_wp2_with fail
                  go_ret
                  exact ⟨by simp, HR.out.turn.trans ((T7.trans hTx).trans hT8)⟩
        · have i1 : ¬ (k : Int) < (len : Int) := by omega
          as_aux_lemma =>
            have PL := R.ok
            have rises := R.qs.ok.rises
            have qn := qlook_n0 (s := sender) (t := tick) R.qs.ok
            have ht0 := R.qs.ok.t0
            have ht1 := R.qs.ok.t1
            have hml := R.qs.ok.len
            have hnl := R.len
            have LK := lookT_c L nl cl T sender tick wr (Sl.of_own R.row) R.tlen (by omega) htk
            rw [PL.look] at LK
            have TI := Lib.hid (times_c L nl cl T sender (tick / 32) wr (Sl.of_own R.row) R.tlen (by omega))
            have SN := Lib.hid (fun (wy : World) (hy : Turn [] wr wy) => senders_c q bm times m wy (R.qs.turn hy (by simp) (by simp)))
            have CN := fun (wy : World) (hy : Turn [] wr wy) => count_c L nl cl T wy (own_slT R.row hy) R.tlen (by omega)
            rw [PL.cnt rises] at CN
            have LF := Lib.hid (fun (wy : World) (hy : Turn [] wr wy) => left_c q bm times m sender tick wy (R.qs.turn hy (by simp) (by simp)) htk)
            have KNT := Lib.hid (fun (wy : World) (hy : Turn [] wr wy) (s : Int) => knownT_c L nl cl T s wy (own_slT R.row hy) R.tlen (by omega))
            have hlv : (qlook m sender tick).2 = 0 → times - (timesL T sender (tick / 32) : Int) = qleft m times sender tick ∧ 0 ≤ tick ∧ IntKind.i64.wrap (times - (timesL T sender (tick / 32) : Int)) = times - (timesL T sender (tick / 32) : Int) := fun h0 => by
              obtain ⟨h1, h2, h3⟩ := qlook_range h0
              have h4 : ((kget m sender).getD (0, 0)).1 ≤ tick / 32 ∧ (qlook m sender tick).1.2 = atN ((kget m sender).getD (0, 0)).1 ((kget m sender).getD (0, 0)).2 (tick / 32) := by
                unfold qlook at h0 ⊢
                split at h0
                · simp at h0
                · split at h0
                  · simp at h0
                  · rename_i g1 g2
                    rw [if_neg g1, if_neg g2]
                    exact ⟨by omega, rfl⟩
              have h5 := PL.times sender (tick / 32) h4.1
              rw [← h4.2] at h5
              unfold qleft
              rw [if_neg (by simpa using h0), h5]
              exact ⟨rfl, h3, IntWalk.i64_in _ (by omega)⟩
            have hln : (qlook m sender tick).2 ≠ 0 → qleft m times sender tick = 0 := fun h => by unfold qleft; rw [if_pos h]
            have KEYK : ∀ x ∈ List.map (·.1) m, knownL T x = true := fun x hx => by
              rw [PL.known]
              obtain ⟨y, hy, rfl⟩ := List.mem_map.1 hx
              rw [kget_of_mem rises (k := y.1) (v := y.2) hy]
              rfl
            have RISE : (List.map (·.1) m).Pairwise (· < ·) := by rw [List.pairwise_map]; exact rises
            have KLEN : (List.map (·.1) m).length = m.length := List.length_map ..
            generalize List.map (·.1) m = kn at *
            generalize qleft m times sender tick = lf at *
            generalize timesL T sender (tick / 32) = tl at *
            generalize (qlook m sender tick).2 = lk at *
            have HR := Lib.hid R
            have HKEY := Lib.hid KEYK
            have HRISE := Lib.hid RISE
            have HKL := Lib.hid KLEN
            have HCN := Lib.hid CN
            have HLK := Lib.hid LK
            clear R PL rises qn KEYK RISE KLEN CN LK
            go_wp2_with fail
            refine HLK.out.mono ?_
            rintro e w3 ⟨rfl, rfl⟩
            by_cases hlk : lk = 0
            · obtain ⟨hlf, tk0, hwr⟩ := hlv hlk
              have td : tick.tdiv 32 = tick / 32 := Int.tdiv_eq_ediv_of_nonneg tk0
              have wfd : (Lit.int .i64 (tick / 32)).wf = true := by simp [Lit.wf, IntKind.min, IntKind.max, IntKind.signed, IntKind.bits]; omega
              subst hlk
              clear hlv hln
              go_wp2_with fail
              refine TI.out.mono ?_
              rintro e w4 ⟨rfl, hT4⟩
              rw [hlf] at hwr
              go_wp2_with fail
              refine (SN.out w4 hT4).mono ?_
              rintro e w5 ⟨D, nn, cd, rfl, oN, hT5⟩
              have T5 := hT4.trans hT5
              have hnn : kn.length = nn := by have := oN.1; rw [i64s_len] at this; omega
              have HNN := Lib.hid hnn
              have hmn : m.length = nn := by rw [← hnn, HKL.out]
              have CNn := Lib.hid (HCN.out w5 T5)
              rw [hmn] at CNn
              have sN := Sl.of_own oN
              clear hmn hnn oN
              go_wp2_with fail
              refine CNn.out.mono ?_
              rintro e w6 ⟨rfl, hT6⟩
              have T6 := T5.trans hT6
              have sN6 := sN.turn0 hT6
              go_wp2_with fail
              refine (LF.out w6 T6).mono ?_
              rintro e w7 ⟨rfl, hT7⟩
              have T7 := T6.trans hT7
              have sN7 := sN6.turn0 hT7
              have hn16 : nn ≤ 16 := by have h1 := HNN.out; have h2 := HKL.out; omega
              go_wp2_with fail
              go_loopw [20] (fun i wz => ∃ x : Nat, x ≤ nn ∧ i = .int .i64 x ∧ Turn [] w7 wz) (fun i _ => 17 - (intOf i).toNat)
              case atStart => exact ⟨0, by omega, rfl, Turn.refl _ _⟩
              case round =>
                obtain ⟨x, hx, rfl, hTx⟩ := hrel
                obtain ⟨wx, rfl⟩ : ∃ wo : World, wo = wr := ⟨_, rfl⟩
                have x0 : (0 : Int) ≤ (x : Int) := Int.natCast_nonneg _
                by_cases hxl : x < nn
                · have x1 : (x : Int) < (nn : Int) := by omega
                  have xk : x < kn.length := by rw [HNN.out]; exact hxl
                  obtain ⟨bN, oNN, eN, lN, v0⟩ := i64s_at (sN7.turn0 hTx) xk
                  have hin := HKEY.out kn[x] (List.getElem_mem xk)
                  have KNn := KNT.out wx (T7.trans hTx) kn[x]
                  rw [hin] at KNn
                  have KNN := Lib.hid KNn
                  clear hin KNn
                  cases x with
                  | zero =>
                    generalize kn[0] = av at *
                    subst eN
                    have v2 := v0
                    rw [Nat.add_zero] at v2
                    go_wp2_with fail
                    refine KNN.out.mono ?_
                    rintro e w8 ⟨rfl, rfl⟩
                    go_wp2_with fail
                    go_quiet (fail)
                    go_wp2_with fail
                    go_roundw
                    case rel => exact ⟨0 + 1, by omega, by go_num, hTx.drewN _⟩
                    case measure => simp [intOf]
                  | succ xm =>
                    have xp : xm < kn.length := by omega
                    obtain ⟨bN2, oNN2, eN2, lN2, v1⟩ := i64s_at (sN7.turn0 hTx) xp
                    have hlt2 : kn[xm] < kn[xm + 1] := List.pairwise_iff_getElem.1 HRISE.out xm (xm + 1) xp xk (by omega)
                    generalize kn[xm + 1] = av at *
                    generalize kn[xm] = bv at *
                    subst eN
                    cases eN2
                    have x2 : (0 : Int) < (xm : Int) + 1 := by omega
                    have x3 : (0 : Int) ≤ (xm : Int) := Int.natCast_nonneg _
                    have x4 : (xm : Int) < (nn : Int) := by omega
                    have x6 : (xm : Int) + 1 < (nn : Int) := by omega
                    have x5 : ¬ av ≤ bv := by omega
                    go_wp2_with fail
                    refine KNN.out.mono ?_
                    rintro e w8 ⟨rfl, rfl⟩
                    go_wp2_with fail
                    go_quiet (fail)
                    go_wp2_with fail
                    go_roundw
                    case rel => exact ⟨xm + 1 + 1, by omega, by go_num, hTx.drewN _⟩
                    case measure => simp [intOf]; omega
                · obtain rfl : x = nn := by omega
                  have x1 : ¬ (x : Int) < (x : Int) := by omega
                  go_wp2_with fail
                  refine (known_c _).mono ?_
                  rintro e w8 ⟨rfl, hT8⟩
                  go_wp2_with fail
                  go_ret
                  exact ⟨by simp, HR.out.turn.trans ((T7.trans hTx).trans hT8)⟩
            · have hlk' : (lk == 0) = false := by simpa using hlk
              have hlf := hln hlk
              have hT4 := Turn.refl [] w3
              obtain ⟨w4, hw4⟩ : ∃ wo : World, wo = w3 := ⟨_, rfl⟩
              rw [← hw4] at hT4
              clear hlv hln hlk
              go_wp2_with fail
              subst hw4
              refine (SN.out _ hT4).mono ?_
              rintro e w5 ⟨D, nn, cd, rfl, oN, hT5⟩
              have T5 := hT4.trans hT5
              have hnn : kn.length = nn := by have := oN.1; rw [i64s_len] at this; omega
              have HNN := Lib.hid hnn
              have hmn : m.length = nn := by rw [← hnn, HKL.out]
              have CNn := Lib.hid (HCN.out w5 T5)
              rw [hmn] at CNn
              have sN := Sl.of_own oN
              clear hmn hnn oN
              go_wp2_with fail
              refine CNn.out.mono ?_
              rintro e w6 ⟨rfl, hT6⟩
              have T6 := T5.trans hT6
              have sN6 := sN.turn0 hT6
              go_wp2_with fail
              refine (LF.out w6 T6).mono ?_
              rintro e w7 ⟨rfl, hT7⟩
              have T7 := T6.trans hT7
              have sN7 := sN6.turn0 hT7
              have hn16 : nn ≤ 16 := by have h1 := HNN.out; have h2 := HKL.out; omega
              go_wp2_with fail
              go_loopw [20] (fun i wz => ∃ x : Nat, x ≤ nn ∧ i = .int .i64 x ∧ Turn [] w7 wz) (fun i _ => 17 - (intOf i).toNat)
              case atStart => exact ⟨0, by omega, rfl, Turn.refl _ _⟩
              case round =>
                obtain ⟨x, hx, rfl, hTx⟩ := hrel
                obtain ⟨wx, rfl⟩ : ∃ wo : World, wo = wr := ⟨_, rfl⟩
                have x0 : (0 : Int) ≤ (x : Int) := Int.natCast_nonneg _
                by_cases hxl : x < nn
                · have x1 : (x : Int) < (nn : Int) := by omega
                  have xk : x < kn.length := by rw [HNN.out]; exact hxl
                  obtain ⟨bN, oNN, eN, lN, v0⟩ := i64s_at (sN7.turn0 hTx) xk
                  have hin := HKEY.out kn[x] (List.getElem_mem xk)
                  have KNn := KNT.out wx (T7.trans hTx) kn[x]
                  rw [hin] at KNn
                  have KNN := Lib.hid KNn
                  clear hin KNn
                  cases x with
                  | zero =>
                    generalize kn[0] = av at *
                    subst eN
                    have v2 := v0
                    rw [Nat.add_zero] at v2
                    go_wp2_with fail
                    refine KNN.out.mono ?_
                    rintro e w8 ⟨rfl, rfl⟩
                    go_wp2_with fail
                    go_quiet (fail)
                    go_wp2_with fail
                    go_roundw
                    case rel => exact ⟨0 + 1, by omega, by go_num, hTx.drewN _⟩
                    case measure => simp [intOf]
                  | succ xm =>
                    have xp : xm < kn.length := by omega
                    obtain ⟨bN2, oNN2, eN2, lN2, v1⟩ := i64s_at (sN7.turn0 hTx) xp
                    have hlt2 : kn[xm] < kn[xm + 1] := List.pairwise_iff_getElem.1 HRISE.out xm (xm + 1) xp xk (by omega)
                    generalize kn[xm + 1] = av at *
                    generalize kn[xm] = bv at *
                    subst eN
                    cases eN2
                    have x2 : (0 : Int) < (xm : Int) + 1 := by omega
                    have x3 : (0 : Int) ≤ (xm : Int) := Int.natCast_nonneg _
                    have x4 : (xm : Int) < (nn : Int) := by omega
                    have x6 : (xm : Int) + 1 < (nn : Int) := by omega
                    have x5 : ¬ av ≤ bv := by omega
                    go_wp2_with fail
                    refine KNN.out.mono ?_
                    rintro e w8 ⟨rfl, rfl⟩
                    go_wp2_with fail
                    go_quiet (fail)
                    go_wp2_with fail
                    go_roundw
                    case rel => exact ⟨xm + 1 + 1, by omega, by go_num, hTx.drewN _⟩
                    case measure => simp [intOf]; omega
                · obtain rfl : x = nn := by omega
                  have x1 : ¬ (x : Int) < (x : Int) := by omega
                  go_wp2_with fail
                  refine (known_c _).mono ?_
                  rintro e w8 ⟨rfl, hT8⟩
                  go_wp2_with fail
                  go_ret
                  exact ⟨by simp, HR.out.turn.trans ((T7.trans hTx).trans hT8)⟩
end Go.Proofs.Ytjjhmedbekfkoaa
