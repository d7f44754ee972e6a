/- The walk of the law QuotaBounds. -/
import Derived.Test.YtjjhmedbekfkoaaSenders
import Derived.Test.YtjjhmedbekfkoaaLet
namespace Go.Proofs.Ytjjhmedbekfkoaa
open Go.RowKit Go.ChangeMaps

structure QBRel (w : World) (times : Int) (k : Nat) (q bm : Nat) (base : Nat) (m : QM) (L : Option Addr) (nl cl : Nat) (T : List (Int × Int)) (wr : World) : Prop where
  qs : QIs wr q bm times m
  row : wr.ownsRow base 46 2 (.slice L nl cl) nl (tcs T)
  tlen : T.length = nl
  len : nl ≤ k
  ok : LetOk times m T
  turn : Turn [] w wr
  lo : base ≤ wr.heap.size

set_option maxRecDepth 100000 in
set_option maxHeartbeats 4000000 in
theorem qbounds_walk (a : Int) (B : Option Addr) (len cap : Nat) (F : Nat → Nat → Int) (w : World) (hR : Rows w B len 3 F) (hlm : len ≤ maxLen) :
    Calls Try.prog 5 #[.int .i64 a, .slice B len cap] w fun e w' => e = .returned (.bool true) ∧ Turn [] w w' := by
  unfold maxLen at hlm
  have HRR := Lib.hid hR
  clear hR
  go_enter Try.func5, Try.ntmps5
  go_wp2_with fail
  have ht : 1 ≤ wrap64 (1 + wrap64 ((IntKind.u64.wrap a).tmod 5)) ∧ wrap64 (1 + wrap64 ((IntKind.u64.wrap a).tmod 5)) ≤ 5 := by
    have r := umod_range a 5 (by omega) (by omega)
    rw [show wrap64 (1 + wrap64 ((IntKind.u64.wrap a).tmod 5)) = 1 + wrap64 ((IntKind.u64.wrap a).tmod 5) from IntWalk.wrap64_in _ (by omega)]
    omega
  generalize wrap64 (1 + wrap64 ((IntKind.u64.wrap a).tmod 5)) = times at *
  obtain ⟨ht1, ht5⟩ := ht
  refine (new_e times _ ht1 (by omega)).mono ?_
  rintro e w1 ⟨q, bm, rfl, hq, l1, l2, hT1⟩
  have hql := hq.lt
  have hz1 := hT1.size
  go_wp2_with fail
  go_loopw [7, 8] (fun lt i wr => ∃ k : Nat, k ≤ len ∧ k ≤ 60 ∧ i = .int .i64 k ∧ ∃ m L nl cl T, lt = .slice L nl cl ∧ QBRel w times k q bm w1.heap.size m L nl cl T wr) (fun _ i _ => 61 - (intOf i).toNat)
  case atStart => exact ⟨0, by omega, by omega, rfl, [], none, 0, 0, [], rfl, ⟨hq, World.ownsRow_nil _ _ _ _, rfl, by omega, LetOk.nil _, hT1, Nat.le_refl _⟩⟩
  case round =>
    obtain ⟨k, hk, hk60, rfl, m, L, nl, cl, T, rfl, R⟩ := hrel
    have i0 : (0 : Int) ≤ (k : Int) := Int.natCast_nonneg _
    by_cases hgo : k < len ∧ k < 60
    · obtain ⟨hlt, hlt60⟩ := hgo
      have i1 : (k : Int) < (len : Int) := by omega
      have i2 : (k : Int) < 60 := by omega
      obtain ⟨bl, off, rfl, hbl, hcc⟩ := HRR.out (by omega)
      have hs := (hcc k hlt 1 (by omega)).1
      have htk := (hcc k hlt 2 (by omega)).1
      have hwf := (hcc k hlt 2 (by omega)).2
      have ht4 : F k 2 ≤ 9223372036854775807 := by simp [Lit.wf, IntKind.min, IntKind.max, IntKind.signed, IntKind.bits] at hwf; omega
      clear hcc hwf
      generalize F k 1 = s at *
      generalize F k 2 = t at *
      have SOF : ∀ w', Turn [] w w' → w'.cell? ⟨bl, off + k * 3 + 1, none⟩ = some (.int .i64 s) ∧ w'.cell? ⟨bl, off + k * 3 + 2, none⟩ = some (.int .i64 t) ∧ Turn [] w w' := fun w' h => ⟨(h.cell hbl (by simp)).trans hs, (h.cell hbl (by simp)).trans htk, h⟩
      have LTF : ∀ w', Turn [] w w' → bl < w'.heap.size := fun w' h => Nat.lt_of_lt_of_le hbl h.size
      clear hs htk
      have SN := Lib.hid (senders_c q bm times m wr R.qs)
      have hml := R.qs.ok.len
      go_wp2_with fail
      refine SN.out.mono ?_
      rintro e w2 ⟨Wd, nw, cw, rfl, oW, hT2⟩
      have T2 := R.turn.trans hT2
      have T2d := T2.drew
      have HQD : QIs w2.drew q bm times m := R.qs.turn hT2.drew (by simp) (by simp)
      have hqlr := R.qs.lt
      have hzr := R.turn.size
      have z12 : w1.heap.size ≤ wr.heap.size := by have := R.lo; exact this
      have TK := Lib.hid (take_c q bm times m s t w2.drew HQD ht4)
      have hset : ∀ i ∈ [bm], w.heap.size ≤ i := by intro i hi; simp at hi; omega
      have KEYS : ∀ {x : Int}, x ∈ List.map (·.1) m → x ∈ List.map (·.1) (qtake m times s t).2 := fun hx => qtake_keys hx
      have hLb : ∀ i ∈ blks L, w1.heap.size ≤ i ∧ i < wr.heap.size := fun i hi => ⟨(own_ltA R.row i hi).2, (own_ltA R.row i hi).1⟩
      have hWb : ∀ i ∈ blks Wd, wr.heap.size ≤ i := fun i hi => (own_ltA oW i hi).2
      obtain ⟨c1, c2, -⟩ := SOF w2 T2
      have lb2 := LTF w2 T2
      by_cases h0 : (qtake m times s t).1 = 0
      · have hr := qlook_range (m := m) (s := s) (t := t) (by
          unfold qtake at h0
          split at h0
          · rename_i hh; exact absurd h0 hh
          · rename_i hh; simpa using hh)
        have LOK := LetOk.take R.qs.ok R.ok h0
        have h0' : ((qtake m times s t).1 == 0) = true := by simpa using h0
        rw [h0] at TK
        clear h0 h0'
        generalize (qtake m times s t).2 = m' at *
        have HTL := Lib.hid R.tlen
        have hlenk := R.len
        go_wp2_with fail
        go_region_held3 (fun w' => w'.cell? ⟨bl, off + k * 3 + 1, none⟩ = some (.int .i64 s) ∧ w'.cell? ⟨bl, off + k * 3 + 2, none⟩ = some (.int .i64 t) ∧ Turn [] w w') (first | exact SOF _ (by assumption))
          (first | (go_at_call 9; refine TK.out.mono ?_; rintro e w3 ⟨rfl, hq3, hT3⟩; have hT3' : Turn [] w w3 := T2d.andThen hT3 (fun i hi => .inr (hset i hi))))
        have T3d : Turn [] w w3.drew := hT3'.drew
        have oL3 := own_turnA (own_turnA R.row hT2.drew (by simp)) hT3 (fun i hi hm => by simp at hm; have := hLb i hi; omega)
        have sW3 := ((Sl.of_own oW).turn0 ((Turn.refl [] w2).drew)).turn hT3 (off_blks (fun i hi hm => by simp at hm; have := hWb i hi; omega))
        have z3 : w2.heap.size ≤ w3.heap.size := hT3.size
        have z2 := hT2.size
        have HQ3 := Lib.hid hq3
        obtain ⟨r1, r2, r3⟩ := hr
        have hnl0 := HTL.out
        have h63 : nl + 1 ≤ 140737488355328 := by omega
        clear hq3 SN TK
        go_wp2_with fail
        go_region_held3 (fun w' => w'.cell? ⟨bl, off + k * 3 + 1, none⟩ = some (.int .i64 s) ∧ w'.cell? ⟨bl, off + k * 3 + 2, none⟩ = some (.int .i64 t) ∧ Turn [] w w') (first | exact SOF _ (by assumption) | exact SOF _ (Turn.alloc (by assumption) _) | exact SOF _ (Turn.drew (Turn.alloc (by assumption) _)) | exact SOF _ ((Turn.alloc hT3' _).drew))
          (first
            | (go_at_call 16; refine (period_c t _ r3 ht4).mono ?_; rintro e wp ⟨rfl, rfl⟩)
            | (refine step_append_sl elemT (by rfl) _ _ (by rfl) L nl cl (tcs T) (by rfl) ((oL3.alloc _).drew) (some ⟨w3.heap.size, 0, none⟩) 1 1 [.int .i64 s, .int .i64 (t / 32)] (by rfl) (Sl.new _ #[.int .i64 s, .int .i64 (t / 32)] _) (by simp) (by simp [Value.oneCell']) (by omega) (by omega) (by simp; omega) ?_; intro L2 cl2 w4 oL4 hg4 hlie4; have hT4' : Turn [] w w4 := Turn.andThen ((Turn.alloc hT3' _).drew) (grown_turn hg4) (fun i hi => .inr (by have := hLb i hi; omega))))
        have g4 := grown_turn hg4
        have hq4 : QIs w4 q bm times m' := (HQ3.out.turn (((Turn.refl [] w3).alloc (.cells #[.int .i64 s, .int .i64 (t / 32)] 46)).drew) (by simp) (by simp)).turn g4 (fun hm => by have := hLb _ hm; omega) (fun hm => by have := hLb _ hm; omega)
        have sW4 := (sW3.turn0 (((Turn.refl [] w3).alloc (.cells #[.int .i64 s, .int .i64 (t / 32)] 46)).drew)).turn g4 (off_blks (fun i hi hm => by have := hWb i hi; have := hLb i hm; omega))
        have hlen4 : (T ++ [(s, t / 32)]).length = nl + 1 := by rw [List.length_append, hnl0]; rfl
        have oL4' : w4.ownsRow w1.heap.size 46 2 (.slice L2 (nl + 1) cl2) (nl + 1) (tcs (T ++ [(s, t / 32)])) := by rw [tcs_append]; exact oL4
        have TI := Lib.hid (fun (wz : World) (hz : Turn [] w4 wz) => times_c L2 (nl + 1) cl2 (T ++ [(s, t / 32)]) s (t / 32) wz ((Sl.of_own oL4').turn0 hz) hlen4 (by omega))
        have hle := LOK.le ht1 s (t / 32)
        generalize timesL (T ++ [(s, t / 32)]) s (t / 32) = q5 at *
        have f1 : ¬ times < (q5 : Int) := by omega
        have T44 := (Turn.refl [] w4).drew
        have SOF4 : ∀ w', Turn [] w4 w' → w'.cell? ⟨bl, off + k * 3 + 1, none⟩ = some (.int .i64 s) ∧ w'.cell? ⟨bl, off + k * 3 + 2, none⟩ = some (.int .i64 t) ∧ Turn [] w4 w' := fun w' h => ⟨(SOF w' (hT4'.trans h)).1, (SOF w' (hT4'.trans h)).2.1, h⟩
        have lb4 := LTF w4 hT4'
        clear SOF
        go_wp2_with fail
        go_region_held3 (fun w' => w'.cell? ⟨bl, off + k * 3 + 1, none⟩ = some (.int .i64 s) ∧ w'.cell? ⟨bl, off + k * 3 + 2, none⟩ = some (.int .i64 t) ∧ Turn [] w4 w') (first | exact SOF4 _ (by assumption))
          (first
            | (go_at_call 16; refine (period_c t _ r3 ht4).mono ?_; rintro e wp ⟨rfl, rfl⟩)
            | (go_at_call 17; refine (TI.out _ (by assumption)).mono ?_; rintro e w5 ⟨rfl, hT5⟩; have hT5' : Turn [] w4 w5 := Turn.trans T44 hT5))
        have Tw5 : Turn [] w w5 := hT4'.trans hT5'
        have HQ5 := Lib.hid (hq4.turn hT5' (by simp) (by simp))
        have hml5 := HQ5.out.ok.len
        have SN5 := Lib.hid (senders_c q bm times m' w5 HQ5.out)
        go_wp2_with fail
        refine SN5.out.mono ?_
        rintro e w6 ⟨Nd, nn, cn, rfl, oN, hT6⟩
        have Tw6 := (Tw5).trans hT6
        have sW6 := (sW4.turn0 hT5').turn0 hT6
        have sN6 := Sl.of_own oN
        have hnl : nn = (List.map (·.1) m').length := by have := oN.1; rw [i64s_len] at this; omega
        have hnw : nw = (List.map (·.1) m).length := by have := oW.1; rw [i64s_len] at this; omega
        have hn16 : nn ≤ 16 := by rw [hnl, List.length_map]; exact hml5
        have hw16 : nw ≤ 16 := by rw [hnw, List.length_map]; exact R.qs.ok.len
        have KEY : ∀ x ∈ List.map (·.1) m, x ∈ List.map (·.1) m' := fun x hx => KEYS hx
        have HNL := Lib.hid hnl
        have HNW := Lib.hid hnw
        have HKEY := Lib.hid KEY
        have HR := Lib.hid R
        clear hnl hnw KEY KEYS R oW oN
        generalize List.map (·.1) m' = kn at *
        generalize List.map (·.1) m = kw at *
        have f3 : ¬ (16 : Int) < (nn : Int) := by omega
        obtain ⟨wc, rfl⟩ : ∃ wo : World, wo = wr := ⟨_, rfl⟩
        go_wp2_with fail
        go_loopw [11] (fun i wz => ∃ x : Nat, x ≤ nw ∧ i = .int .i64 x ∧ Turn [] w6 wz) (fun i _ => 17 - (intOf i).toNat)
        case atStart => exact ⟨0, by omega, rfl, Turn.refl _ _⟩
        case round =>
          obtain ⟨x, hx, rfl, hTx⟩ := hrel
          obtain ⟨wx, rfl⟩ : ∃ wo : World, wo = wr := ⟨_, rfl⟩
          have x0 : (0 : Int) ≤ (x : Int) := Int.natCast_nonneg _
          by_cases hxl : x < nw
          · have x1 : (x : Int) < (nw : Int) := by omega
            have xk : x < kw.length := by rw [← HNW.out]; exact hxl
            have hin := HKEY.out kw[x] (List.getElem_mem xk)
            obtain ⟨bW, oWW, rfl, lW, v0⟩ := i64s_at sW6 xk
            generalize kw[x] = av at *
            have HIN := Lib.hid hin
            clear hin
            go_wp2_with fail
            go_loopw [12, 13] (fun inn j wy => ∃ jj : Nat, jj ≤ nn ∧ j = .int .i64 jj ∧ inn = .bool ((kn.take jj).any (· == av)) ∧ Turn [] w6 wy) (fun _ j _ => 17 - (intOf j).toNat)
            case atStart => exact ⟨0, by omega, rfl, rfl, hTx⟩
            case round =>
              obtain ⟨jj, hj, rfl, rfl, hTy⟩ := hrel
              have j0 : (0 : Int) ≤ (jj : Int) := Int.natCast_nonneg _
              by_cases hjl : jj < nn
              · have j1 : (jj : Int) < (nn : Int) := by omega
                have jk : jj < kn.length := by rw [← HNL.out]; exact hjl
                obtain ⟨bN, oNN, rfl, lN, n0⟩ := i64s_at (sN6.turn0 hTy) jk
                have v0' := (hTy.cell (p := ⟨bW, oWW + x, none⟩) lW (by simp)).trans v0
                have lW' := Nat.lt_of_lt_of_le lW hTy.size
                have hst : Hid ((kn.take (jj + 1)).any (· == av) = ((kn.take jj).any (· == av) || kn[jj] == av)) := by
                  show _ = _
                  rw [List.take_succ_eq_append_getElem jk, List.any_append]
                  simp
                generalize kn[jj] = nv at *
                generalize (kn.take jj).any (· == av) = bb at *
                cases bb with
                | true =>
                  go_wp2_with fail
                  go_quiet (fail)
                  go_wp2_with fail
                  go_roundw
                  case rel => exact ⟨jj + 1, by omega, by go_num, by rw [hst.out]; rfl, hTy.drewN _⟩
                  case measure => simp [intOf]; omega
                | false =>
                  go_wp2_with fail
                  go_quiet (fail)
                  go_wp2_with fail
                  go_roundw
                  case rel => exact ⟨jj + 1, by omega, by go_num, by rw [hst.out]; simp, hTy.drewN _⟩
                  case measure => simp [intOf]; omega
              · obtain rfl : jj = nn := by omega
                have j1 : ¬ (jj : Int) < (jj : Int) := by omega
                have hall : (kn.take jj).any (· == av) = true := by
                  rw [List.take_of_length_le (by rw [← HNL.out]; exact Nat.le_refl _), List.any_eq_true]
                  exact ⟨av, HIN.out, by simp⟩
                rw [hall]
                clear hall
                go_wp2_with fail
                go_roundw
                case rel => exact ⟨x + 1, by omega, by go_num, hTy⟩
                case measure => simp [intOf]; omega
          · obtain rfl : x = nw := by omega
            have x1 : ¬ (x : Int) < (x : Int) := by omega
            go_wp2_with fail
            go_roundw
            case rel => exact ⟨k + 1, by omega, by omega, by go_num, m', L2, nl + 1, cl2, T ++ [(s, t / 32)], rfl, ⟨HQ5.out.turn (hT6.trans hTx) (by simp) (by simp), own_turnA (own_turnA oL4' hT5' (by simp)) (hT6.trans hTx) (by simp), hlen4, by have := HR.out.len; omega, LOK, Tw6.trans hTx, by have := hT6.size; have := hTx.size; have := (show w1.heap.size ≤ w5.heap.size by have := hT5'.size; have := hg4.size; simp at this; omega); omega⟩⟩
            case measure => simp [intOf]; omega
      · have h0' : ((qtake m times s t).1 == 0) = false := by simpa using h0
        have hsame := qtake_same h0
        rw [hsame] at TK
        rw [hsame] at KEYS
        generalize (qtake m times s t).1 = ev at *
        clear h0 hsame
        go_wp2_with fail
        go_region_held3 (fun w' => w'.cell? ⟨bl, off + k * 3 + 1, none⟩ = some (.int .i64 s) ∧ w'.cell? ⟨bl, off + k * 3 + 2, none⟩ = some (.int .i64 t) ∧ Turn [] w w') (first | exact SOF _ (by assumption))
          (first | (go_at_call 9; refine TK.out.mono ?_; rintro e w5 ⟨rfl, hq5, hT5⟩; have hT5' : Turn [] w w5 := T2d.andThen hT5 (fun i hi => .inr (hset i hi))))
        have oL5 := own_turnA (own_turnA R.row hT2.drew (by simp)) hT5 (fun i hi hm => by simp at hm; have := hLb i hi; omega)
        have sW5 := ((Sl.of_own oW).turn0 ((Turn.refl [] w2).drew)).turn hT5 (off_blks (fun i hi hm => by simp at hm; have := hWb i hi; omega))
        clear SN TK
        obtain ⟨m', hm'⟩ : ∃ m' : QM, m' = m := ⟨_, rfl⟩
        have hq5' : QIs w5 q bm times m' := by rw [hm']; exact hq5
        have KEYS2 : ∀ {x : Int}, x ∈ List.map (·.1) m → x ∈ List.map (·.1) m' := fun hx => by rw [hm']; exact hx
        have LOK2 : LetOk times m' T := by rw [hm']; exact R.ok
        clear KEYS hm'
        have HQ5 := Lib.hid (hq5')
        have hml5 := HQ5.out.ok.len
        have SN5 := Lib.hid (senders_c q bm times m' w5 HQ5.out)
        go_wp2_with fail
        refine SN5.out.mono ?_
        rintro e w6 ⟨Nd, nn, cn, rfl, oN, hT6⟩
        have Tw6 := (hT5').trans hT6
        have sW6 := (sW5).turn0 hT6
        have sN6 := Sl.of_own oN
        have hnl : nn = (List.map (·.1) m').length := by have := oN.1; rw [i64s_len] at this; omega
        have hnw : nw = (List.map (·.1) m).length := by have := oW.1; rw [i64s_len] at this; omega
        have hn16 : nn ≤ 16 := by rw [hnl, List.length_map]; exact hml5
        have hw16 : nw ≤ 16 := by rw [hnw, List.length_map]; exact R.qs.ok.len
        have KEY : ∀ x ∈ List.map (·.1) m, x ∈ List.map (·.1) m' := fun x hx => KEYS2 hx
        have HNL := Lib.hid hnl
        have HNW := Lib.hid hnw
        have HKEY := Lib.hid KEY
        have HR := Lib.hid R
        clear hnl hnw KEY KEYS2 R oW oN
        generalize List.map (·.1) m' = kn at *
        generalize List.map (·.1) m = kw at *
        have f3 : ¬ (16 : Int) < (nn : Int) := by omega
        obtain ⟨wc, rfl⟩ : ∃ wo : World, wo = wr := ⟨_, rfl⟩
        go_wp2_with fail
        go_loopw [11] (fun i wz => ∃ x : Nat, x ≤ nw ∧ i = .int .i64 x ∧ Turn [] w6 wz) (fun i _ => 17 - (intOf i).toNat)
        case atStart => exact ⟨0, by omega, rfl, Turn.refl _ _⟩
        case round =>
          obtain ⟨x, hx, rfl, hTx⟩ := hrel
          obtain ⟨wx, rfl⟩ : ∃ wo : World, wo = wr := ⟨_, rfl⟩
          have x0 : (0 : Int) ≤ (x : Int) := Int.natCast_nonneg _
          by_cases hxl : x < nw
          · have x1 : (x : Int) < (nw : Int) := by omega
            have xk : x < kw.length := by rw [← HNW.out]; exact hxl
            have hin := HKEY.out kw[x] (List.getElem_mem xk)
            obtain ⟨bW, oWW, rfl, lW, v0⟩ := i64s_at sW6 xk
            generalize kw[x] = av at *
            have HIN := Lib.hid hin
            clear hin
            go_wp2_with fail
            go_loopw [12, 13] (fun inn j wy => ∃ jj : Nat, jj ≤ nn ∧ j = .int .i64 jj ∧ inn = .bool ((kn.take jj).any (· == av)) ∧ Turn [] w6 wy) (fun _ j _ => 17 - (intOf j).toNat)
            case atStart => exact ⟨0, by omega, rfl, rfl, hTx⟩
            case round =>
              obtain ⟨jj, hj, rfl, rfl, hTy⟩ := hrel
              have j0 : (0 : Int) ≤ (jj : Int) := Int.natCast_nonneg _
              by_cases hjl : jj < nn
              · have j1 : (jj : Int) < (nn : Int) := by omega
                have jk : jj < kn.length := by rw [← HNL.out]; exact hjl
                obtain ⟨bN, oNN, rfl, lN, n0⟩ := i64s_at (sN6.turn0 hTy) jk
                have v0' := (hTy.cell (p := ⟨bW, oWW + x, none⟩) lW (by simp)).trans v0
                have lW' := Nat.lt_of_lt_of_le lW hTy.size
                have hst : Hid ((kn.take (jj + 1)).any (· == av) = ((kn.take jj).any (· == av) || kn[jj] == av)) := by
                  show _ = _
                  rw [List.take_succ_eq_append_getElem jk, List.any_append]
                  simp
                generalize kn[jj] = nv at *
                generalize (kn.take jj).any (· == av) = bb at *
                cases bb with
                | true =>
                  go_wp2_with fail
                  go_quiet (fail)
                  go_wp2_with fail
                  go_roundw
                  case rel => exact ⟨jj + 1, by omega, by go_num, by rw [hst.out]; rfl, hTy.drewN _⟩
                  case measure => simp [intOf]; omega
                | false =>
                  go_wp2_with fail
                  go_quiet (fail)
                  go_wp2_with fail
                  go_roundw
                  case rel => exact ⟨jj + 1, by omega, by go_num, by rw [hst.out]; simp, hTy.drewN _⟩
                  case measure => simp [intOf]; omega
              · obtain rfl : jj = nn := by omega
                have j1 : ¬ (jj : Int) < (jj : Int) := by omega
                have hall : (kn.take jj).any (· == av) = true := by
                  rw [List.take_of_length_le (by rw [← HNL.out]; exact Nat.le_refl _), List.any_eq_true]
                  exact ⟨av, HIN.out, by simp⟩
                rw [hall]
                clear hall
                go_wp2_with fail
                go_roundw
                case rel => exact ⟨x + 1, by omega, by go_num, hTy⟩
                case measure => simp [intOf]; omega
          · obtain rfl : x = nw := by omega
            have x1 : ¬ (x : Int) < (x : Int) := by omega
            go_wp2_with fail
            go_roundw
            case rel => exact ⟨k + 1, by omega, by omega, by go_num, m', L, nl, cl, T, rfl, ⟨HQ5.out.turn (hT6.trans hTx) (by simp) (by simp), own_turnA (oL5) (hT6.trans hTx) (by simp), HR.out.tlen, by have := HR.out.len; omega, LOK2, Tw6.trans hTx, by have := hT6.size; have := hTx.size; have := (show w1.heap.size ≤ w5.heap.size by have z5 : w2.heap.size ≤ w5.heap.size := hT5.size; have := hT2.size; omega); omega⟩⟩
            case measure => simp [intOf]; omega
    · by_cases hkl : k < len
      · have i1 : (k : Int) < (len : Int) := by omega
        have i2 : ¬ (k : Int) < 60 := by omega
        go_wp2_with fail
        refine (known_c _).mono ?_
        rintro e w5 ⟨rfl, hT5⟩
        go_wp2_with fail
        go_ret
        exact ⟨by simp, R.turn.trans hT5⟩
      · have i1 : ¬ (k : Int) < (len : Int) := by omega
        go_wp2_with fail
        refine (known_c _).mono ?_
        rintro e w5 ⟨rfl, hT5⟩
        go_wp2_with fail
        go_ret
        exact ⟨by simp, R.turn.trans hT5⟩
end Go.Proofs.Ytjjhmedbekfkoaa
