/- The walk of the law HintsBounds. -/
import Derived.Test.YtpdencmgjihnfaaHBoundsP
import Derived.Test.YtpdencmgjihnfaaActs
namespace Go.Proofs.Ytpdencmgjihnfaa
open Go.RowKit Go.ChangeMaps

theorem act_cells {W : World} {A : Option Addr} {len : Nat} {F : Nat → Nat → Int} {As : Nat → Option Addr} {ns cs : Nat → Nat} {G : Nat → Nat → Nat → Int} (h : ActRows W A len 3 F As ns cs 4 G) {k : Nat} (hk : k < len) :
    ∃ b off, A = some ⟨b, off, none⟩ ∧ b < W.heap.size ∧ W.cell? ⟨b, off + k * 4, none⟩ = some (.int .i64 (F k 0)) ∧ W.cell? ⟨b, off + k * 4 + 1, none⟩ = some (.int .i64 (F k 1)) ∧ W.cell? ⟨b, off + k * 4 + 2, none⟩ = some (.int .i64 (F k 2)) ∧ W.cell? ⟨b, off + k * 4 + 3, none⟩ = some (.slice (As k) (ns k) (cs k)) ∧ ns k ≤ maxLen ∧ Sl W (As k) (ccs (rowsC (G k) (ns k))) := by
  obtain ⟨b, off, hA, hb, hc⟩ := h (by omega)
  obtain ⟨h1, h2, h3, h4, h5⟩ := hc k hk
  exact ⟨b, off, hA, hb, (h1 0 (by omega)).1, (h1 1 (by omega)).1, (h1 2 (by omega)).1, h2, by omega, rows_ccs h5⟩

/-- At the beginning of a round. -/
structure HBRel (w : World) (times : Int) (k : Nat) (h q bm base : Nat) (m : QM) (A : Option Addr) (n cp : Nat) (wl : List C4) (L : Option Addr) (nl cl : Nat) (T : List (Int × Int)) (wr : World) : Prop where
  his : HIs wr h q bm (5, 0, 0, 1) times m base A n cp wl
  row : wr.ownsRow base 41 2 (.slice L nl cl) nl (tcs T)
  tlen : T.length = nl
  len : nl ≤ 6 * k
  ok : LetOk times m T
  apart : ∀ i ∈ blks A, i ∉ blks L
  new : w.heap.size ≤ h ∧ w.heap.size ≤ q ∧ w.heap.size ≤ bm ∧ w.heap.size ≤ base
  turn : Turn [] w wr

set_option maxRecDepth 100000 in
set_option maxHeartbeats 4000000 in
theorem hbounds_walk (a : Int) (B : Option Addr) (len cap : Nat) (F : Nat → Nat → Int) (As : Nat → Option Addr) (ns cs : Nat → Nat) (G : Nat → Nat → Nat → Int) (w : World) (hlm : len ≤ maxLen) (hR : ActRows w B len 3 F As ns cs 4 G) :
    Calls Try.prog 3 #[.int .i64 a, .slice B len cap] w fun e w' => e = .returned (.bool true) ∧ Turn [] w w' := by
  unfold maxLen at hlm
  have HRR := Lib.hid hR
  clear hR
  go_enter Try.func3, Try.ntmps3
  go_wp2_with fail
  have ht : 1 ≤ wrap64 (1 + wrap64 ((IntKind.u64.wrap a).tmod 3)) ∧ wrap64 (1 + wrap64 ((IntKind.u64.wrap a).tmod 3)) ≤ 3 := by
    have h0 : 0 ≤ IntKind.u64.wrap a := by rw [IntKind.wrap_u64]; omega
    have h1 : (IntKind.u64.wrap a).tmod 3 = IntKind.u64.wrap a % 3 := Int.tmod_eq_emod_of_nonneg h0
    have h2 : wrap64 (IntKind.u64.wrap a % 3) = IntKind.u64.wrap a % 3 := IntWalk.wrap64_in _ (by omega)
    have h3 : wrap64 (1 + IntKind.u64.wrap a % 3) = 1 + IntKind.u64.wrap a % 3 := IntWalk.wrap64_in _ (by omega)
    rw [h1, h2, h3]
    omega
  generalize wrap64 (1 + wrap64 ((IntKind.u64.wrap a).tmod 3)) = times at *
  obtain ⟨ht1, ht3⟩ := ht
  refine (newH_c 5 0 0 1 times _ (by decide) ht1 (by omega)).mono ?_
  rintro e w1 ⟨h, q, bm, base0, rfl, H1, l1, l2, l3, hT1⟩
  have base1 : w.heap.size ≤ base0 := by have := H1.lo; omega
  go_wp2_with fail
  go_loopw [7, 8] (fun lt i wr => ∃ k : Nat, k ≤ len ∧ k ≤ 60 ∧ i = .int .i64 k ∧ ∃ m A n cp wl L nl cl T, lt = .slice L nl cl ∧ HBRel w times k h q bm base0 m A n cp wl L nl cl T wr) (fun _ i _ => 61 - (intOf i).toNat)
  case atStart => exact ⟨0, by omega, by omega, rfl, [], none, 0, 0, [], none, 0, 0, [], rfl, ⟨H1, World.ownsRow_nil _ _ _ _, rfl, by omega, LetOk.nil _, by simp [blks], ⟨l1, l2, l3, base1⟩, hT1⟩⟩
  case round =>
    obtain ⟨k, hk, hk60, rfl, m, A, n, cp, wl, L, nl, cl, T, rfl, R⟩ := hrel
    have i0 : (0 : Int) ≤ (k : Int) := Int.natCast_nonneg _
    by_cases hgo : k < len ∧ k < 60
    · obtain ⟨hlt, hlt60⟩ := hgo
      have i1 : (k : Int) < (len : Int) := by omega
      have i2 : (k : Int) < 60 := by omega
      obtain ⟨bl, off, rfl, hbl, hc0, hc1, hc2, hc3, hnm, hsl⟩ := act_cells HRR.out hlt
      have HR := Lib.hid R
      have WT := Lib.hid (waiting_c h q bm _ times m base0 A n cp wl wr R.his)
      have cells : ∀ wz, Turn [] w wz → wz.cell? ⟨bl, off + k * 4 + 1, none⟩ = some (.int .i64 (F k 1)) ∧ wz.cell? ⟨bl, off + k * 4 + 2, none⟩ = some (.int .i64 (F k 2)) ∧ wz.cell? ⟨bl, off + k * 4 + 3, none⟩ = some (.slice (As k) (ns k) (cs k)) ∧ bl < wz.heap.size ∧ Sl wz (As k) (ccs (rowsC (G k) (ns k))) := fun wz hz =>
        ⟨(hz.cell hbl (by simp)).trans hc1, (hz.cell hbl (by simp)).trans hc2, (hz.cell hbl (by simp)).trans hc3, Nat.lt_of_lt_of_le hbl hz.size, hsl.turn0 hz⟩
      have HCE := Lib.hid cells
      have htk : 0 ≤ wrap64 ((IntKind.u64.wrap (F k 2)).tmod 1073741825) ∧ wrap64 ((IntKind.u64.wrap (F k 2)).tmod 1073741825) ≤ 1073741824 := by
        have h0 : 0 ≤ IntKind.u64.wrap (F k 2) := by rw [IntKind.wrap_u64]; omega
        have h1 : (IntKind.u64.wrap (F k 2)).tmod 1073741825 = IntKind.u64.wrap (F k 2) % 1073741825 := Int.tmod_eq_emod_of_nonneg h0
        have h2 : wrap64 (IntKind.u64.wrap (F k 2) % 1073741825) = IntKind.u64.wrap (F k 2) % 1073741825 := IntWalk.wrap64_in _ (by omega)
        rw [h1, h2]
        omega
      have hXl := rowsC_len (G k) (ns k)
      clear hsl hc0 hc1 hc2 hc3 cells R
      generalize rowsC (G k) (ns k) = X at *
      generalize F k 1 = sd at *
      generalize F k 2 = tk at *
      generalize As k = Ak at *
      generalize ns k = nk at *
      generalize cs k = ck at *
      have HXL := Lib.hid hXl
      clear hXl
      unfold maxLen at hnm
      go_wp2_with fail
      refine WT.out.mono ?_
      rintro e w2 ⟨Wa, ca, rfl, oWa, hT2⟩
      have Tw2 := HR.out.turn.trans hT2
      obtain ⟨e1, e2, e3, hb2, hs2⟩ := HCE.out w2 Tw2
      go_wp2_with fail
      have hl3 := HR.out.his.le
      obtain ⟨wr0, rfl⟩ : ∃ wo : World, wo = wr := ⟨_, rfl⟩
      generalize wrap64 ((IntKind.u64.wrap tk).tmod 1073741825) = tt at *
      obtain ⟨tt0, tt1⟩ := htk
      clear e1 e2 e3 hb2 hs2
      go_loopw [11, 12] (fun x i wz => ∃ j : Nat, j ≤ nk ∧ j ≤ 6 ∧ i = .int .i64 j ∧ ∃ D cd, x = .slice D j cd ∧ wz.ownsRow w2.heap.size 29 4 (.slice D j cd) j (ccs (X.take j)) ∧ Turn [] w2 wz) (fun _ i _ => 7 - (intOf i).toNat)
      case atStart => exact ⟨0, by omega, by omega, rfl, none, 0, rfl, World.ownsRow_nil _ _ _ _, Turn.refl _ _⟩
      case round =>
        obtain ⟨j, hj, hj6, rfl, D, cd, rfl, oD, hTz⟩ := hrel
        obtain ⟨wz, rfl⟩ : ∃ wo : World, wo = wr := ⟨_, rfl⟩
        have j0 : (0 : Int) ≤ (j : Int) := Int.natCast_nonneg _
        obtain ⟨c1, c2, c3, hb3, hs3⟩ := HCE.out wz (Tw2.trans hTz)
        by_cases hgo : j < nk ∧ j < 6
        · obtain ⟨g1, g2⟩ := hgo
          have g1' : (j : Int) < (nk : Int) := by omega
          have g2' : (j : Int) < 6 := by omega
          have jx : j < X.length := by rw [HXL.out]; exact g1
          obtain ⟨bx, ox, rfl, lbx, x0, x1, x2, x3⟩ := ccs_at hs3 jx
          have htake : Hid (ccs (X.take (j + 1)) = ccs (X.take j) ++ [.int .i64 X[j].1, .int .i64 X[j].2.1, .int .i64 X[j].2.2.1, .int .i64 X[j].2.2.2]) := by
            show _ = _
            rw [List.take_succ_eq_append_getElem jx, ccs_append]
            rfl
          clear hs3
          generalize X[j] = y at *
          obtain ⟨y1, y2, y3, y4⟩ := y
          simp only at x0 x1 x2 x3 htake
          go_wp2_with fail
          refine (to_c y1 y2 y3 y4 _).mono ?_
          rintro e w3 ⟨rfl, hT3⟩
          have oD3 := own_turnA oD hT3 (by simp)
          have hz3 := hT3.size
          have hzz := hTz.size
          go_wp2_with (at_builtin; refine wpList_append_sl elemC rfl _ _ rfl D j cd (ccs (X.take j)) rfl (oD3.alloc _) (some ⟨w3.heap.size, 0, none⟩) 1 1 [.int .i64 y1, .int .i64 y2, .int .i64 y3, .int .i64 y4] rfl (Sl.new _ #[.int .i64 y1, .int .i64 y2, .int .i64 y3, .int .i64 y4] _) (by simp) (by simp [Value.oneCell']) (by omega) (by omega) (by simp; omega) ?_; intro D' cd' w5 oD5 hg5 hlie5)
          go_roundw
          case rel => exact ⟨j + 1, by omega, by omega, by go_num, D', cd', rfl, by rw [htake.out]; exact oD5, ((hTz.trans hT3).alloc _).andThen (grown_turn hg5) (fun i hi => .inr (own_ltA oD i hi).2)⟩
          case measure => simp [intOf]; omega
        clear hs3 c1 c2 c3 hb3
        by_cases g1 : j < nk
        · have g1' : (j : Int) < (nk : Int) := by omega
          have g2' : ¬ (j : Int) < 6 := by omega
          obtain ⟨c1, c2, c3, hb3, hs3⟩ := HCE.out wz (Tw2.trans hTz)
          clear hs3
          have Tw3 := Tw2.trans hTz
          have H3 := HR.out.his.turn (hT2.trans hTz) (by simp) (by simp) (by simp) (by simp)
          have hz3 := hTz.size
          have hD : ∀ i ∈ blks D, w2.heap.size ≤ i := fun i hi => (own_ltA oD i hi).2
          have hAw : ∀ i ∈ blks A, i < wr0.heap.size := fun i hi => (own_ltA HR.out.his.row i hi).1
          have lo3 := HR.out.his.lo
          have hzr := hT2.size
          have OA := Lib.hid (offerAll_c h q bm _ times m base0 A n cp wl sd tt D j cd (X.take j) wz H3 (by omega) (Sl.of_own oD) (by rw [List.length_take, HXL.out]; omega) (by omega) (fun i hi => by have := hD i hi; exact ⟨by omega, by omega, fun hm => by have := hAw i hm; omega⟩))
          have LK := LetOk.all (5, 0, 0, 1) times sd tt (X.take j) wl m T H3.qs.ok HR.out.ok
          have PR := offAll_pre (5, 0, 0, 1) times sd tt (X.take j) wl m
          have EL := offAll_errs (5, 0, 0, 1) times sd tt (X.take j) wl m
          rw [List.length_take, HXL.out] at EL
          generalize offAll (5, 0, 0, 1) times sd tt (X.take j) wl m = V at *
          obtain ⟨es, wl', m'⟩ := V
          simp only at LK PR EL OA
          have HEL : Hid (es.length = j) := by show _ = _; omega
          have HLK := Lib.hid LK
          have HPR := Lib.hid PR
          obtain ⟨c1, c2, c3, hb3, -⟩ := HCE.out wz Tw3
          clear LK PR EL H3
          go_wp2_with fail
          refine OA.out.mono ?_
          rintro e w4 ⟨E, ne, ce, A', n', cp', rfl, oE, hne, H4, new4, ap4, hT4⟩
          subst hne
          have hLb : ∀ i ∈ blks L, base0 ≤ i ∧ i < wr0.heap.size := fun i hi => ⟨(own_ltA HR.out.row i hi).2, (own_ltA HR.out.row i hi).1⟩
          have oL4 := own_turnA (own_turnA HR.out.row (hT2.trans hTz) (by simp)) hT4 (fun i hi => by
            have := hLb i hi
            simp only [List.mem_append, List.mem_cons, List.not_mem_nil, or_false, not_or]
            exact ⟨⟨by omega, by omega⟩, fun hm => HR.out.apart i hm hi⟩)
          have hz4 := hT4.size
          have hWa := own_ltA oWa
          have sWa4 := ((Sl.of_own oWa).turn0 hTz).turn hT4 (off_blks (fun i hi => by
            have := (hWa i hi).2
            simp only [List.mem_append, List.mem_cons, List.not_mem_nil, or_false, not_or]
            exact ⟨⟨by omega, by omega⟩, fun hm => by have := hAw i hm; omega⟩))
          have Tw4 : Turn [] w w4 := Tw3.andThen hT4 (fun i hi => by
            right
            have hnew := HR.out.new
            simp only [List.mem_append, List.mem_cons, List.not_mem_nil, or_false] at hi
            rcases hi with (rfl | rfl) | hi
            · omega
            · omega
            · have := (own_ltA HR.out.his.row i hi).2; omega)
          have hEb := own_ltA oE
          have sE4 := Sl.of_own oE
          have apL : ∀ i ∈ blks A', i ∉ blks L := fun i hi hm => by
            rcases new4 i hi with h1 | h1
            · exact HR.out.apart i h1 hm
            · have := (hLb i hm).2; omega
          have ttd : tt.tdiv 32 = tt / 32 := Int.tdiv_eq_ediv_of_nonneg tt0
          obtain ⟨wy, rfl⟩ : ∃ wo : World, wo = wz := ⟨_, rfl⟩
          clear c1 c2 c3 hb3
          go_wp2_with fail
          go_loopw [7, 14] (fun lt i wz' => ∃ p : Nat, p ≤ ne ∧ i = .int .i64 p ∧ ∃ L' nl' cl', lt = .slice L' nl' cl' ∧ wz'.ownsRow base0 41 2 (.slice L' nl' cl') nl' (tcs (T ++ addT sd (tt / 32) (es.take p))) ∧ Hid ((T ++ addT sd (tt / 32) (es.take p)).length = nl') ∧ nl' ≤ nl + p ∧ (∀ i ∈ blks A', i ∉ blks L') ∧ (∀ i ∈ blks L', i ∈ blks L ∨ w4.heap.size ≤ i) ∧ Turn (blks L) w4 wz') (fun _ i _ => 7 - (intOf i).toNat)
          case atStart => exact ⟨0, by omega, rfl, L, nl, cl, rfl, by simpa [addT] using oL4, by show _ = _; simp [addT]; exact HR.out.tlen, by omega, apL, fun i hi => .inl hi, Turn.refl _ _⟩
          case round =>
            obtain ⟨p, hp, rfl, L', nl', cl', rfl, oL', HNL, hnlp, ap', new', hTp⟩ := hrel
            have p0 : (0 : Int) ≤ (p : Int) := Int.natCast_nonneg _
            have hnlk := HR.out.len
            have hzp := hTp.size
            have Tw5 : Turn [] w wr := Tw4.andThen hTp (fun i hi => by have := (hLb i hi).1; have hnew := HR.out.new; exact .inr (by omega))
            obtain ⟨c1, c2, c3, hb5, -⟩ := HCE.out wr Tw5
            by_cases hpl : p < ne
            · have p1 : (p : Int) < (ne : Int) := by omega
              have pe : p < es.length := by rw [HEL.out]; exact hpl
              have sEp := sE4.turn hTp (off_blks (fun i hi hm => by have := (hEb i hi).2; have := (hLb i hm).2; omega))
              obtain ⟨bE, oEE, rfl, lE, cE⟩ := sEp.at_ (k := p) (by simpa [ents64] using pe)
              have hev : (ents64 es)[p]'(by simpa [ents64] using pe) = .int .i64 es[p] := by simp [ents64]
              rw [hev] at cE
              have hst : Hid (addT sd (tt / 32) (es.take (p + 1)) = addT sd (tt / 32) (es.take p) ++ (if es[p] = 0 then [(sd, tt / 32)] else [])) := by
                show _ = _
                rw [List.take_succ_eq_append_getElem pe, addT_snoc]
              clear hev
              generalize es[p] = ev at *
              by_cases he : ev = 0
              · subst he
                have hlp := HNL.out
                go_wp2_with (at_builtin; go_must (refine wpList_append_sl elemT rfl _ _ rfl L' nl' cl' _ rfl (oL'.alloc _) (some ⟨wr.heap.size, 0, none⟩) 1 1 [.int .i64 sd, .int .i64 (tt / 32)] rfl (Sl.new _ #[.int .i64 sd, .int .i64 (tt / 32)] _) (by simp) (by simp [Value.oneCell']) (by omega) (by omega) (by simp; omega) ?_); intro L2 cl2 w6 oL2 hg6 hlie6)
                have hgT := grown_turn hg6
                have hL' := own_ltA oL'
                go_roundw
                case rel =>
                  refine ⟨p + 1, by omega, by go_num, L2, nl' + 1, cl2, rfl, ?_, ?_, by omega, ?_, ?_, ?_⟩
                  · rw [hst.out, if_pos rfl, ← List.append_assoc, tcs_append]
                    exact oL2
                  · show _ = _
                    rw [hst.out, if_pos rfl, ← List.append_assoc, List.length_append, hlp]
                    rfl
                  · intro i hi hm
                    rcases lies_blks hlie6 i hm with h1 | h1
                    · exact ap' i hi h1
                    · have := (own_ltA H4.row i hi).1
                      simp at h1
                      omega
                  · intro i hi
                    rcases lies_blks hlie6 i hi with h1 | h1
                    · exact new' i h1
                    · right
                      simp at h1
                      omega
                  · refine (hTp.alloc _).andThen hgT (fun i hi => ?_)
                    exact new' i hi
                case measure => simp [intOf]; omega
              · have he' : (ev == 0) = false := by simpa using he
                have hst' : Hid (addT sd (tt / 32) (es.take (p + 1)) = addT sd (tt / 32) (es.take p)) := by show _ = _; rw [hst.out, if_neg he, List.append_nil]
                clear he hst
                go_wp2_with fail
                go_roundw
                case rel => exact ⟨p + 1, by omega, by go_num, L', nl', cl', rfl, by rw [hst'.out]; exact oL', by show _ = _; rw [hst'.out]; exact HNL.out, by omega, ap', new', hTp⟩
                case measure => simp [intOf]; omega
            · obtain rfl : p = ne := by omega
              have p1 : ¬ (p : Int) < (p : Int) := by omega
              have hes : es.take p = es := List.take_of_length_le (by rw [HEL.out]; exact Nat.le_refl _)
              rw [hes] at oL' HNL
              clear hes
              obtain ⟨wu, rfl⟩ : ∃ wo : World, wo = wr := ⟨_, rfl⟩
              have H5 := H4.turn hTp (fun hm => by have := (hLb _ hm).1; omega) (fun hm => by have := (hLb _ hm).1; omega) (fun hm => by have := (hLb _ hm).1; omega) (fun i hi => apL i hi)
              have WT2 := Lib.hid (waiting_c h q bm _ times m' base0 A' n' cp' wl' wu H5)
              have H5' := Lib.hid H5
              have hn16 := H5.le
              have hnl' := H5.len
              clear H5 hnl'
              go_wp2_with fail
              refine WT2.out.mono ?_
              rintro e w6 ⟨Na, cna, rfl, oN, hT6⟩
              have Tw6 := Tw5.trans hT6
              clear c1 c2 c3 hb5
              obtain ⟨c1, c2, c3, hb6, -⟩ := HCE.out w6 Tw6
              have hnt := HNL.out
              have TI := Lib.hid (times_c L' nl' cl' (T ++ addT sd (tt / 32) es) sd (tt / 32) w6 ((Sl.of_own oL').turn0 hT6) hnt (by omega))
              have hle := HLK.out.le ht1 sd (tt / 32)
              generalize timesL (T ++ addT sd (tt / 32) es) sd (tt / 32) = q5 at *
              obtain ⟨ext, hext⟩ := HPR.out
              have hnn : n ≤ n' := by have a1 := H5'.out.len; have a2 := HR.out.his.len; rw [hext, List.length_append] at a1; omega
              have f1 : ¬ times < (q5 : Int) := by omega
              have f2 : ¬ (n' : Int) < (n : Int) := by omega
              have f3 : ¬ (16 : Int) < (n' : Int) := by omega
              clear hnt hext
              go_wp2_with fail
              refine TI.out.mono ?_
              rintro e w7 ⟨rfl, hT7⟩
              have hT57 := hT6.trans hT7
              have sN7 := (Sl.of_own oN).turn0 hT7
              have sW7 := (sWa4.turn hTp (off_blks (fun i hi hm => by have := (hWa i hi).2; have := (hLb i hm).2; omega))).turn0 hT57
              have hwl := HR.out.his.len
              have hwl' := H5'.out.len
              have hpe : ∀ (x : Nat) (h1 : x < wl'.length) (h2 : x < wl.length), wl'[x] = wl[x] := fun x h1 h2 => by
                obtain ⟨ext, hext⟩ := HPR.out
                subst hext
                exact List.getElem_append_left h2
              have HPE := Lib.hid hpe
              have HWL := Lib.hid hwl
              have HWL' := Lib.hid hwl'
              clear hpe hwl hwl' oN sWa4
              go_wp2_with fail
              go_loopw [16] (fun i wz' => ∃ x : Nat, x ≤ n ∧ i = .int .i64 x ∧ Turn [] w7 wz') (fun i _ => 17 - (intOf i).toNat)
              case atStart => exact ⟨0, by omega, rfl, Turn.refl _ _⟩
              case round =>
                obtain ⟨x, hx, rfl, hTx⟩ := hrel
                have x0' : (0 : Int) ≤ (x : Int) := Int.natCast_nonneg _
                by_cases hxl : x < n
                · have y1' : (x : Int) < (n : Int) := by omega
                  have y2' : (x : Int) < (n' : Int) := by omega
                  have z1 : x < wl.length := by rw [HWL.out]; exact hxl
                  have z2 : x < wl'.length := by rw [HWL'.out]; omega
                  obtain ⟨bN, oNN, rfl, lN, n0, n1, n2, n3⟩ := ccs_at (sN7.turn0 hTx) z2
                  obtain ⟨bW, oWW, rfl, lW, v0, v1, v2, v3⟩ := ccs_at (sW7.turn0 hTx) z1
                  rw [HPE.out x z2 z1] at n0 n1 n2 n3
                  generalize wl[x] = y at *
                  obtain ⟨y1, y2, y3, y4⟩ := y
                  simp only at n0 n1 n2 n3 v0 v1 v2 v3
                  go_wp2_with fail
                  go_quiet (fail)
                  go_wp2_with fail
                  go_roundw
                  case rel => exact ⟨x + 1, by omega, by go_num, hTx.drewN _⟩
                  case measure => simp [intOf]; omega
                · obtain rfl : x = n := by omega
                  have y1' : ¬ (x : Int) < (x : Int) := by omega
                  go_wp2_with fail
                  go_roundw
                  case rel =>
                    have hnlk2 := HR.out.len
                    exact ⟨k + 1, by omega, by omega, by go_num, m', A', n', cp', wl', L', nl', cl', T ++ addT sd (tt / 32) es, rfl, ⟨H5'.out.turn (hT57.trans hTx) (by simp) (by simp) (by simp) (by simp), own_turnA oL' (hT57.trans hTx) (by simp), HNL.out, by omega, HLK.out, ap', HR.out.new, Tw5.trans (hT57.trans hTx)⟩⟩
                  case measure => simp [intOf]; omega
        · have g1' : ¬ (j : Int) < (nk : Int) := by omega
          obtain ⟨c1, c2, c3, hb3, hs3⟩ := HCE.out wz (Tw2.trans hTz)
          clear hs3
          have Tw3 := Tw2.trans hTz
          have H3 := HR.out.his.turn (hT2.trans hTz) (by simp) (by simp) (by simp) (by simp)
          have hz3 := hTz.size
          have hD : ∀ i ∈ blks D, w2.heap.size ≤ i := fun i hi => (own_ltA oD i hi).2
          have hAw : ∀ i ∈ blks A, i < wr0.heap.size := fun i hi => (own_ltA HR.out.his.row i hi).1
          have lo3 := HR.out.his.lo
          have hzr := hT2.size
          have OA := Lib.hid (offerAll_c h q bm _ times m base0 A n cp wl sd tt D j cd (X.take j) wz H3 (by omega) (Sl.of_own oD) (by rw [List.length_take, HXL.out]; omega) (by omega) (fun i hi => by have := hD i hi; exact ⟨by omega, by omega, fun hm => by have := hAw i hm; omega⟩))
          have LK := LetOk.all (5, 0, 0, 1) times sd tt (X.take j) wl m T H3.qs.ok HR.out.ok
          have PR := offAll_pre (5, 0, 0, 1) times sd tt (X.take j) wl m
          have EL := offAll_errs (5, 0, 0, 1) times sd tt (X.take j) wl m
          rw [List.length_take, HXL.out] at EL
          generalize offAll (5, 0, 0, 1) times sd tt (X.take j) wl m = V at *
          obtain ⟨es, wl', m'⟩ := V
          simp only at LK PR EL OA
          have HEL : Hid (es.length = j) := by show _ = _; omega
          have HLK := Lib.hid LK
          have HPR := Lib.hid PR
          obtain ⟨c1, c2, c3, hb3, -⟩ := HCE.out wz Tw3
          clear LK PR EL H3
          go_wp2_with fail
          refine OA.out.mono ?_
          rintro e w4 ⟨E, ne, ce, A', n', cp', rfl, oE, hne, H4, new4, ap4, hT4⟩
          subst hne
          have hLb : ∀ i ∈ blks L, base0 ≤ i ∧ i < wr0.heap.size := fun i hi => ⟨(own_ltA HR.out.row i hi).2, (own_ltA HR.out.row i hi).1⟩
          have oL4 := own_turnA (own_turnA HR.out.row (hT2.trans hTz) (by simp)) hT4 (fun i hi => by
            have := hLb i hi
            simp only [List.mem_append, List.mem_cons, List.not_mem_nil, or_false, not_or]
            exact ⟨⟨by omega, by omega⟩, fun hm => HR.out.apart i hm hi⟩)
          have hz4 := hT4.size
          have hWa := own_ltA oWa
          have sWa4 := ((Sl.of_own oWa).turn0 hTz).turn hT4 (off_blks (fun i hi => by
            have := (hWa i hi).2
            simp only [List.mem_append, List.mem_cons, List.not_mem_nil, or_false, not_or]
            exact ⟨⟨by omega, by omega⟩, fun hm => by have := hAw i hm; omega⟩))
          have Tw4 : Turn [] w w4 := Tw3.andThen hT4 (fun i hi => by
            right
            have hnew := HR.out.new
            simp only [List.mem_append, List.mem_cons, List.not_mem_nil, or_false] at hi
            rcases hi with (rfl | rfl) | hi
            · omega
            · omega
            · have := (own_ltA HR.out.his.row i hi).2; omega)
          have hEb := own_ltA oE
          have sE4 := Sl.of_own oE
          have apL : ∀ i ∈ blks A', i ∉ blks L := fun i hi hm => by
            rcases new4 i hi with h1 | h1
            · exact HR.out.apart i h1 hm
            · have := (hLb i hm).2; omega
          have ttd : tt.tdiv 32 = tt / 32 := Int.tdiv_eq_ediv_of_nonneg tt0
          obtain ⟨wy, rfl⟩ : ∃ wo : World, wo = wz := ⟨_, rfl⟩
          clear c1 c2 c3 hb3
          go_wp2_with fail
          go_loopw [7, 14] (fun lt i wz' => ∃ p : Nat, p ≤ ne ∧ i = .int .i64 p ∧ ∃ L' nl' cl', lt = .slice L' nl' cl' ∧ wz'.ownsRow base0 41 2 (.slice L' nl' cl') nl' (tcs (T ++ addT sd (tt / 32) (es.take p))) ∧ Hid ((T ++ addT sd (tt / 32) (es.take p)).length = nl') ∧ nl' ≤ nl + p ∧ (∀ i ∈ blks A', i ∉ blks L') ∧ (∀ i ∈ blks L', i ∈ blks L ∨ w4.heap.size ≤ i) ∧ Turn (blks L) w4 wz') (fun _ i _ => 7 - (intOf i).toNat)
          case atStart => exact ⟨0, by omega, rfl, L, nl, cl, rfl, by simpa [addT] using oL4, by show _ = _; simp [addT]; exact HR.out.tlen, by omega, apL, fun i hi => .inl hi, Turn.refl _ _⟩
          case round =>
            obtain ⟨p, hp, rfl, L', nl', cl', rfl, oL', HNL, hnlp, ap', new', hTp⟩ := hrel
            have p0 : (0 : Int) ≤ (p : Int) := Int.natCast_nonneg _
            have hnlk := HR.out.len
            have hzp := hTp.size
            have Tw5 : Turn [] w wr := Tw4.andThen hTp (fun i hi => by have := (hLb i hi).1; have hnew := HR.out.new; exact .inr (by omega))
            obtain ⟨c1, c2, c3, hb5, -⟩ := HCE.out wr Tw5
            by_cases hpl : p < ne
            · have p1 : (p : Int) < (ne : Int) := by omega
              have pe : p < es.length := by rw [HEL.out]; exact hpl
              have sEp := sE4.turn hTp (off_blks (fun i hi hm => by have := (hEb i hi).2; have := (hLb i hm).2; omega))
              obtain ⟨bE, oEE, rfl, lE, cE⟩ := sEp.at_ (k := p) (by simpa [ents64] using pe)
              have hev : (ents64 es)[p]'(by simpa [ents64] using pe) = .int .i64 es[p] := by simp [ents64]
              rw [hev] at cE
              have hst : Hid (addT sd (tt / 32) (es.take (p + 1)) = addT sd (tt / 32) (es.take p) ++ (if es[p] = 0 then [(sd, tt / 32)] else [])) := by
                show _ = _
                rw [List.take_succ_eq_append_getElem pe, addT_snoc]
              clear hev
              generalize es[p] = ev at *
              by_cases he : ev = 0
              · subst he
                have hlp := HNL.out
                go_wp2_with (at_builtin; go_must (refine wpList_append_sl elemT rfl _ _ rfl L' nl' cl' _ rfl (oL'.alloc _) (some ⟨wr.heap.size, 0, none⟩) 1 1 [.int .i64 sd, .int .i64 (tt / 32)] rfl (Sl.new _ #[.int .i64 sd, .int .i64 (tt / 32)] _) (by simp) (by simp [Value.oneCell']) (by omega) (by omega) (by simp; omega) ?_); intro L2 cl2 w6 oL2 hg6 hlie6)
                have hgT := grown_turn hg6
                have hL' := own_ltA oL'
                go_roundw
                case rel =>
                  refine ⟨p + 1, by omega, by go_num, L2, nl' + 1, cl2, rfl, ?_, ?_, by omega, ?_, ?_, ?_⟩
                  · rw [hst.out, if_pos rfl, ← List.append_assoc, tcs_append]
                    exact oL2
                  · show _ = _
                    rw [hst.out, if_pos rfl, ← List.append_assoc, List.length_append, hlp]
                    rfl
                  · intro i hi hm
                    rcases lies_blks hlie6 i hm with h1 | h1
                    · exact ap' i hi h1
                    · have := (own_ltA H4.row i hi).1
                      simp at h1
                      omega
                  · intro i hi
                    rcases lies_blks hlie6 i hi with h1 | h1
                    · exact new' i h1
                    · right
                      simp at h1
                      omega
                  · refine (hTp.alloc _).andThen hgT (fun i hi => ?_)
                    exact new' i hi
                case measure => simp [intOf]; omega
              · have he' : (ev == 0) = false := by simpa using he
                have hst' : Hid (addT sd (tt / 32) (es.take (p + 1)) = addT sd (tt / 32) (es.take p)) := by show _ = _; rw [hst.out, if_neg he, List.append_nil]
                clear he hst
                go_wp2_with fail
                go_roundw
                case rel => exact ⟨p + 1, by omega, by go_num, L', nl', cl', rfl, by rw [hst'.out]; exact oL', by show _ = _; rw [hst'.out]; exact HNL.out, by omega, ap', new', hTp⟩
                case measure => simp [intOf]; omega
            · obtain rfl : p = ne := by omega
              have p1 : ¬ (p : Int) < (p : Int) := by omega
              have hes : es.take p = es := List.take_of_length_le (by rw [HEL.out]; exact Nat.le_refl _)
              rw [hes] at oL' HNL
              clear hes
              obtain ⟨wu, rfl⟩ : ∃ wo : World, wo = wr := ⟨_, rfl⟩
              have H5 := H4.turn hTp (fun hm => by have := (hLb _ hm).1; omega) (fun hm => by have := (hLb _ hm).1; omega) (fun hm => by have := (hLb _ hm).1; omega) (fun i hi => apL i hi)
              have WT2 := Lib.hid (waiting_c h q bm _ times m' base0 A' n' cp' wl' wu H5)
              have H5' := Lib.hid H5
              have hn16 := H5.le
              have hnl' := H5.len
              clear H5 hnl'
              go_wp2_with fail
              refine WT2.out.mono ?_
              rintro e w6 ⟨Na, cna, rfl, oN, hT6⟩
              have Tw6 := Tw5.trans hT6
              clear c1 c2 c3 hb5
              obtain ⟨c1, c2, c3, hb6, -⟩ := HCE.out w6 Tw6
              have hnt := HNL.out
              have TI := Lib.hid (times_c L' nl' cl' (T ++ addT sd (tt / 32) es) sd (tt / 32) w6 ((Sl.of_own oL').turn0 hT6) hnt (by omega))
              have hle := HLK.out.le ht1 sd (tt / 32)
              generalize timesL (T ++ addT sd (tt / 32) es) sd (tt / 32) = q5 at *
              obtain ⟨ext, hext⟩ := HPR.out
              have hnn : n ≤ n' := by have a1 := H5'.out.len; have a2 := HR.out.his.len; rw [hext, List.length_append] at a1; omega
              have f1 : ¬ times < (q5 : Int) := by omega
              have f2 : ¬ (n' : Int) < (n : Int) := by omega
              have f3 : ¬ (16 : Int) < (n' : Int) := by omega
              clear hnt hext
              go_wp2_with fail
              refine TI.out.mono ?_
              rintro e w7 ⟨rfl, hT7⟩
              have hT57 := hT6.trans hT7
              have sN7 := (Sl.of_own oN).turn0 hT7
              have sW7 := (sWa4.turn hTp (off_blks (fun i hi hm => by have := (hWa i hi).2; have := (hLb i hm).2; omega))).turn0 hT57
              have hwl := HR.out.his.len
              have hwl' := H5'.out.len
              have hpe : ∀ (x : Nat) (h1 : x < wl'.length) (h2 : x < wl.length), wl'[x] = wl[x] := fun x h1 h2 => by
                obtain ⟨ext, hext⟩ := HPR.out
                subst hext
                exact List.getElem_append_left h2
              have HPE := Lib.hid hpe
              have HWL := Lib.hid hwl
              have HWL' := Lib.hid hwl'
              clear hpe hwl hwl' oN sWa4
              go_wp2_with fail
              go_loopw [16] (fun i wz' => ∃ x : Nat, x ≤ n ∧ i = .int .i64 x ∧ Turn [] w7 wz') (fun i _ => 17 - (intOf i).toNat)
              case atStart => exact ⟨0, by omega, rfl, Turn.refl _ _⟩
              case round =>
                obtain ⟨x, hx, rfl, hTx⟩ := hrel
                have x0' : (0 : Int) ≤ (x : Int) := Int.natCast_nonneg _
                by_cases hxl : x < n
                · have y1' : (x : Int) < (n : Int) := by omega
                  have y2' : (x : Int) < (n' : Int) := by omega
                  have z1 : x < wl.length := by rw [HWL.out]; exact hxl
                  have z2 : x < wl'.length := by rw [HWL'.out]; omega
                  obtain ⟨bN, oNN, rfl, lN, n0, n1, n2, n3⟩ := ccs_at (sN7.turn0 hTx) z2
                  obtain ⟨bW, oWW, rfl, lW, v0, v1, v2, v3⟩ := ccs_at (sW7.turn0 hTx) z1
                  rw [HPE.out x z2 z1] at n0 n1 n2 n3
                  generalize wl[x] = y at *
                  obtain ⟨y1, y2, y3, y4⟩ := y
                  simp only at n0 n1 n2 n3 v0 v1 v2 v3
                  go_wp2_with fail
                  go_quiet (fail)
                  go_wp2_with fail
                  go_roundw
                  case rel => exact ⟨x + 1, by omega, by go_num, hTx.drewN _⟩
                  case measure => simp [intOf]; omega
                · obtain rfl : x = n := by omega
                  have y1' : ¬ (x : Int) < (x : Int) := by omega
                  go_wp2_with fail
                  go_roundw
                  case rel =>
                    have hnlk2 := HR.out.len
                    exact ⟨k + 1, by omega, by omega, by go_num, m', A', n', cp', wl', L', nl', cl', T ++ addT sd (tt / 32) es, rfl, ⟨H5'.out.turn (hT57.trans hTx) (by simp) (by simp) (by simp) (by simp), own_turnA oL' (hT57.trans hTx) (by simp), HNL.out, by omega, HLK.out, ap', HR.out.new, Tw5.trans (hT57.trans hTx)⟩⟩
                  case measure => simp [intOf]; omega
    · by_cases hkl : k < len
      · have i1 : (k : Int) < (len : Int) := by omega
        have i2 : ¬ (k : Int) < 60 := by omega
        go_wp2_with fail
        refine (hknown_c _).mono ?_
        rintro e w5 ⟨rfl, hT5⟩
        go_wp2_with fail
        go_ret
        exact ⟨by simp, R.turn.trans hT5⟩
      · have i1 : ¬ (k : Int) < (len : Int) := by omega
        go_wp2_with fail
        refine (hknown_c _).mono ?_
        rintro e w5 ⟨rfl, hT5⟩
        go_wp2_with fail
        go_ret
        exact ⟨by simp, R.turn.trans hT5⟩
end Go.Proofs.Ytpdencmgjihnfaa
