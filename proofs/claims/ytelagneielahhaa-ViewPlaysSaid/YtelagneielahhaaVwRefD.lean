/- The reference's view: Sweep, Drop. -/
import Derived.Test.YtelagneielahhaaVwRefA
import Derived.Test.YtelagneielahhaaVwSweep
namespace Go.Proofs.Ytelagneielahhaa
open Go.RowKit Go.ChangeMaps Go.MapKept

def RSwept (w : World) (r : Nat) (own : C4) (A : Option Addr) (m : VM) (p : En → Bool) (e : Ending) (w' : World) : Prop :=
  ∃ D nd cd A' n' c', e = .returned (.slice D nd cd) ∧ w'.ownsRow w.heap.size 30 4 (.slice D nd cd) nd (ccs (suchL p (m.map (·.2)))) ∧ RVIs w' r own A' n' c' (m.filter (fun q => !p q.2)) ∧ (∀ x ∈ blks A', w.heap.size ≤ x) ∧ Turn [r] w w'
set_option maxRecDepth 100000 in
set_option maxHeartbeats 4000000 in
theorem rSweep_c {w : World} {r : Nat} {own : C4} {A : Option Addr} {n c : Nat} {m : VM} (h : RVIs w r own A n c m) (hl : n ≤ 16) {s : Nat} {G : Nat → Lg} (hs : RSIs w s G) (tick : Int) (h0 : 0 ≤ tick) (h1 : tick ≤ 1073741824) (hsn : ∀ p ∈ m, 0 ≤ p.2.since ∧ p.2.since ≤ 1073741824) :
    Calls Try.prog 31 #[.pointer (some ⟨r, 0, none⟩), .int .i64 tick, .pointer (some ⟨s, 0, none⟩)] w (RSwept w r own A m (goneB tick (catL (fun i => (G i).xs) 4))) := by
  have HR := Lib.hid h
  have HN := h.len
  have HS := Lib.hid (fun wz (hT : Turn [] w wz) x => rHas_c (hs.turn0 hT) x)
  have HSN := Lib.hid hsn
  have RS := h.row
  obtain ⟨-, -, -, -, s4, rl⟩ := h.cells
  have rl0 := rl
  clear h hs hsn RS
  unfold RSwept
  generalize hp : catL (fun i => (G i).xs) 4 = rv at *
  go_enter Try.func31, Try.ntmps31
  go_wp2_with fail
  go_loopw [7, 8, 9] (fun x y ix wr => ∃ k : Nat, k ≤ n ∧ ix = .int .i64 ((k : Nat) : Int) ∧ ∃ D nd cd D' nd' cd', x = .slice D nd cd ∧ y = .slice D' nd' cd' ∧ nd ≤ k ∧ nd' ≤ k ∧ wr.ownsRow w.heap.size 30 4 (.slice D nd cd) nd (ccs (suchL (goneB tick rv) ((m.take k).map (·.2)))) ∧
    wr.ownsRow w.heap.size 94 8 (.slice D' nd' cd') nd' (ecs (((m.take k).filter (fun q => !goneB tick rv q.2)).map (·.2))) ∧ (∀ i ∈ blks D, i ∉ blks D') ∧ Turn [] w wr) (fun _ _ ix _ => n - (intOf ix).toNat)
  case atStart =>
    exact ⟨0, by omega, rfl, none, 0, 0, none, 0, 0, rfl, rfl, by omega, by omega, by simp [suchL, ccs]; exact World.ownsRow_nil _ _ _ _, by simp [ecs]; exact World.ownsRow_nil _ _ _ _, by simp [blks], Turn.refl _ _⟩
  case round =>
    obtain ⟨k, hk, rfl, D, nd, cd, D', nd', cd', rfl, rfl, hnd, hnd', oD, oE, hap, hT⟩ := hrel
    obtain ⟨wy, rfl⟩ : ∃ wo : World, wo = wr := ⟨_, rfl⟩
    have k0 : (0 : Int) ≤ (k : Int) := Int.natCast_nonneg _
    have h3 := HR.out.turn0 hT
    have hz := hT.size
    by_cases hlt : k < n
    · have k1 : (k : Int) < (n : Int) := by omega
      have kx : k < m.length := by omega
      obtain ⟨-, -, -, -, s4, rl⟩ := h3.cells
      obtain ⟨g, rfl, gl, gr, fr, y0, y1, y2, y3, y4, y5, y6, y7⟩ := h3.place kx
      have hsn := HSN.out _ (List.getElem_mem kx)
      have htk : m.take (k + 1) = m.take k ++ [m[k]] := List.take_succ_eq_append_getElem kx
      have e1 : Hid (ccs (suchL (goneB tick rv) ((m.take (k + 1)).map (·.2))) = ccs (suchL (goneB tick rv) ((m.take k).map (·.2))) ++ (if goneB tick rv m[k].2 then ccs [m[k].2.c] else [])) := by
        show _ = _
        rw [htk, List.map_append, suchL, List.filter_append, List.map_append, ccs_append]
        congr 1
        by_cases hg : goneB tick rv m[k].2 = true <;> simp [hg, ccs]
      have e2 : Hid (ecs (((m.take (k + 1)).filter (fun q => !goneB tick rv q.2)).map (·.2)) = ecs (((m.take k).filter (fun q => !goneB tick rv q.2)).map (·.2)) ++ (if goneB tick rv m[k].2 then [] else ecs [m[k].2])) := by
        show _ = _
        rw [htk, List.filter_append, List.map_append, ecs_append]
        congr 1
        by_cases hg : goneB tick rv m[k].2 = true <;> simp [hg, ecs]
      have OD := Lib.hid oD
      have OE := Lib.hid oE
      have HAP := Lib.hid hap
      have HTT := Lib.hid hT
      clear h3 fr gr hap hT oD oE htk
      generalize hme : m[k].2 = me at *
      clear hme
      obtain ⟨⟨x1, x2, x3, x4⟩, dn, hd, sn, ic⟩ := me
      simp only at y0 y1 y2 y3 y4 y5 y6 y7 hsn
      have hw : wrap64 (tick - sn) = tick - sn := IntWalk.wrap64_in _ (by omega)
      by_cases hl : dn = true ∧ sn ≤ tick - 64
      · obtain ⟨rfl, hl⟩ := hl
        have hv : Hid (goneB tick rv ⟨(x1, x2, x3, x4), true, hd, sn, ic⟩ = true) := by show _ = true; unfold goneB; simp [hl]
        have hge : 64 ≤ tick - sn := by omega
        clear hl
        obtain ⟨wx, hwx⟩ : ∃ wx : World, wx = wy.alloc (.cells #[.int .i64 x1, .int .i64 x2, .int .i64 x3, .int .i64 x4, .bool true, .int .i64 hd, .int .i64 sn, .int .i64 ic] 94) := ⟨_, rfl⟩
        have TX : Turn [] wy wx := by rw [hwx]; exact (Turn.refl [] wy).alloc _
        have BX : Blk wx wy.heap.size 94 #[.int .i64 x1, .int .i64 x2, .int .i64 x3, .int .i64 x4, .bool true, .int .i64 hd, .int .i64 sn, .int .i64 ic] := by rw [hwx]; exact Blk.new wy 94 #[.int .i64 x1, .int .i64 x2, .int .i64 x3, .int .i64 x4, .bool true, .int .i64 hd, .int .i64 sn, .int .i64 ic]
        have HWX := Lib.hid hwx
        have HTX0 := Lib.hid TX
        have HBX0 := Lib.hid BX
        clear hwx TX BX
        go_upto_region 8 with fail
        rw [← HWX.out]
        have TX := HTX0.out
        have BX := HBX0.out
        clear y0 y1 y2 y3 y4 y5 y6 y7 s4 rl gl
        have z0 := BX.cell 0
        have z1 := BX.cell 1
        have z2 := BX.cell 2
        have z3 := BX.cell 3
        have z4 := BX.cell 4
        have z5 := BX.cell 5
        have z6 := BX.cell 6
        have z7 := BX.cell 7
        have zl := BX.lt
        have hzx := TX.size
        have HO := Lib.hid (own_turnA OD.out TX (by simp))
        have HE := Lib.hid (own_turnA OE.out TX (by simp))
        have HTX := Lib.hid (HTT.out.trans TX)
        clear BX TX
        go_wp2_with (at_builtin; refine wpList_append_sl elemR rfl _ _ rfl D nd cd _ rfl (HO.out.alloc _) (some ⟨wx.heap.size, 0, none⟩) 1 1 [.int .i64 x1, .int .i64 x2, .int .i64 x3, .int .i64 x4] rfl (Sl.new _ #[.int .i64 x1, .int .i64 x2, .int .i64 x3, .int .i64 x4] _) (by simp) (by simp [Value.oneCell']) (by omega) (by omega) (by simp; omega) ?_; intro D2 cd2 w6 own6 hg6 hlie6)
        have T6 := (HTX.out.alloc (.cells #[.int .i64 x1, .int .i64 x2, .int .i64 x3, .int .i64 x4] 30)).andThen (grown_turn hg6) (fun x hx => .inr (own_ltA HO.out x hx).2)
        go_roundw
        case rel => exact ⟨k + 1, by omega, by go_num, D2, nd + 1, cd2, D', nd', cd', rfl, rfl, by omega, by omega, by rw [e1.out, if_pos hv.out]; exact own6, by rw [e2.out, if_pos hv.out, List.append_nil]; exact own_turnA (HE.out.alloc _) (grown_turn hg6) (fun i hi hm => HAP.out i hm hi), fun i hi hm => by
          rcases lies_blks hlie6 i hi with h | h
          · exact HAP.out i h hm
          · have := (own_ltA HE.out i hm).1
            subst h
            simp at this
            omega, T6⟩
        case measure => simp [intOf]; omega
      · have hlate : Hid ((dn && decide (sn ≤ tick - 64)) = false) := by show _ = false; rw [Bool.and_eq_false_iff]; by_cases h2 : dn = true <;> simp_all
        by_cases hx : x3 ≤ tick
        · have hv : Hid (goneB tick rv ⟨(x1, x2, x3, x4), dn, hd, sn, ic⟩ = true) := by show _ = true; unfold goneB; simp [hx]
          cases dn with
          | true =>
            have hns : ¬ 64 ≤ tick - sn := fun h => hl ⟨rfl, by omega⟩
            clear hl
            obtain ⟨wx, hwx⟩ : ∃ wx : World, wx = wy.alloc (.cells #[.int .i64 x1, .int .i64 x2, .int .i64 x3, .int .i64 x4, .bool true, .int .i64 hd, .int .i64 sn, .int .i64 ic] 94) := ⟨_, rfl⟩
            have TX : Turn [] wy wx := by rw [hwx]; exact (Turn.refl [] wy).alloc _
            have BX : Blk wx wy.heap.size 94 #[.int .i64 x1, .int .i64 x2, .int .i64 x3, .int .i64 x4, .bool true, .int .i64 hd, .int .i64 sn, .int .i64 ic] := by rw [hwx]; exact Blk.new wy 94 #[.int .i64 x1, .int .i64 x2, .int .i64 x3, .int .i64 x4, .bool true, .int .i64 hd, .int .i64 sn, .int .i64 ic]
            have HWX := Lib.hid hwx
            have HTX0 := Lib.hid TX
            have HBX0 := Lib.hid BX
            clear hwx TX BX
            go_upto_region 8 with fail
            rw [← HWX.out]
            have TX := HTX0.out
            have BX := HBX0.out
            clear y0 y1 y2 y3 y4 y5 y6 y7 s4 rl gl
            have z0 := BX.cell 0
            have z1 := BX.cell 1
            have z2 := BX.cell 2
            have z3 := BX.cell 3
            have z4 := BX.cell 4
            have z5 := BX.cell 5
            have z6 := BX.cell 6
            have z7 := BX.cell 7
            have zl := BX.lt
            have hzx := TX.size
            have HO := Lib.hid (own_turnA OD.out TX (by simp))
            have HE := Lib.hid (own_turnA OE.out TX (by simp))
            have HTX := Lib.hid (HTT.out.trans TX)
            clear BX TX
            go_wp2_with (at_builtin; refine wpList_append_sl elemR rfl _ _ rfl D nd cd _ rfl (HO.out.alloc _) (some ⟨wx.heap.size, 0, none⟩) 1 1 [.int .i64 x1, .int .i64 x2, .int .i64 x3, .int .i64 x4] rfl (Sl.new _ #[.int .i64 x1, .int .i64 x2, .int .i64 x3, .int .i64 x4] _) (by simp) (by simp [Value.oneCell']) (by omega) (by omega) (by simp; omega) ?_; intro D2 cd2 w6 own6 hg6 hlie6)
            have T6 := (HTX.out.alloc (.cells #[.int .i64 x1, .int .i64 x2, .int .i64 x3, .int .i64 x4] 30)).andThen (grown_turn hg6) (fun x hx => .inr (own_ltA HO.out x hx).2)
            go_roundw
            case rel => exact ⟨k + 1, by omega, by go_num, D2, nd + 1, cd2, D', nd', cd', rfl, rfl, by omega, by omega, by rw [e1.out, if_pos hv.out]; exact own6, by rw [e2.out, if_pos hv.out, List.append_nil]; exact own_turnA (HE.out.alloc _) (grown_turn hg6) (fun i hi hm => HAP.out i hm hi), fun i hi hm => by
              rcases lies_blks hlie6 i hi with h | h
              · exact HAP.out i h hm
              · have := (own_ltA HE.out i hm).1
                subst h
                simp at this
                omega, T6⟩
            case measure => simp [intOf]; omega
          | false =>
            clear hl
            obtain ⟨wx, hwx⟩ : ∃ wx : World, wx = wy.alloc (.cells #[.int .i64 x1, .int .i64 x2, .int .i64 x3, .int .i64 x4, .bool false, .int .i64 hd, .int .i64 sn, .int .i64 ic] 94) := ⟨_, rfl⟩
            have TX : Turn [] wy wx := by rw [hwx]; exact (Turn.refl [] wy).alloc _
            have BX : Blk wx wy.heap.size 94 #[.int .i64 x1, .int .i64 x2, .int .i64 x3, .int .i64 x4, .bool false, .int .i64 hd, .int .i64 sn, .int .i64 ic] := by rw [hwx]; exact Blk.new wy 94 #[.int .i64 x1, .int .i64 x2, .int .i64 x3, .int .i64 x4, .bool false, .int .i64 hd, .int .i64 sn, .int .i64 ic]
            have HWX := Lib.hid hwx
            have HTX0 := Lib.hid TX
            have HBX0 := Lib.hid BX
            clear hwx TX BX
            go_upto_region 8 with fail
            rw [← HWX.out]
            have TX := HTX0.out
            have BX := HBX0.out
            clear y0 y1 y2 y3 y4 y5 y6 y7 s4 rl gl
            have z0 := BX.cell 0
            have z1 := BX.cell 1
            have z2 := BX.cell 2
            have z3 := BX.cell 3
            have z4 := BX.cell 4
            have z5 := BX.cell 5
            have z6 := BX.cell 6
            have z7 := BX.cell 7
            have zl := BX.lt
            have hzx := TX.size
            have HO := Lib.hid (own_turnA OD.out TX (by simp))
            have HE := Lib.hid (own_turnA OE.out TX (by simp))
            have HTX := Lib.hid (HTT.out.trans TX)
            clear BX TX
            go_wp2_with (at_builtin; refine wpList_append_sl elemR rfl _ _ rfl D nd cd _ rfl (HO.out.alloc _) (some ⟨wx.heap.size, 0, none⟩) 1 1 [.int .i64 x1, .int .i64 x2, .int .i64 x3, .int .i64 x4] rfl (Sl.new _ #[.int .i64 x1, .int .i64 x2, .int .i64 x3, .int .i64 x4] _) (by simp) (by simp [Value.oneCell']) (by omega) (by omega) (by simp; omega) ?_; intro D2 cd2 w6 own6 hg6 hlie6)
            have T6 := (HTX.out.alloc (.cells #[.int .i64 x1, .int .i64 x2, .int .i64 x3, .int .i64 x4] 30)).andThen (grown_turn hg6) (fun x hx => .inr (own_ltA HO.out x hx).2)
            go_roundw
            case rel => exact ⟨k + 1, by omega, by go_num, D2, nd + 1, cd2, D', nd', cd', rfl, rfl, by omega, by omega, by rw [e1.out, if_pos hv.out]; exact own6, by rw [e2.out, if_pos hv.out, List.append_nil]; exact own_turnA (HE.out.alloc _) (grown_turn hg6) (fun i hi hm => HAP.out i hm hi), fun i hi hm => by
              rcases lies_blks hlie6 i hi with h | h
              · exact HAP.out i h hm
              · have := (own_ltA HE.out i hm).1
                subst h
                simp at this
                omega, T6⟩
            case measure => simp [intOf]; omega
        · have hv : Hid (goneB tick rv ⟨(x1, x2, x3, x4), dn, hd, sn, ic⟩ = decide (x4 ∈ rv)) := by show _ = _; unfold goneB; rw [hlate.out]; simp [hx]
          cases dn with
          | true =>
            have hns : ¬ 64 ≤ tick - sn := fun h => hl ⟨rfl, by omega⟩
            clear hl
            have HS2 := Lib.hid (HS.out (wy.alloc (.cells #[.int .i64 x1, .int .i64 x2, .int .i64 x3, .int .i64 x4, .bool true, .int .i64 hd, .int .i64 sn, .int .i64 ic] 94)) (HTT.out.alloc _) x4)
            have TX0 := Lib.hid ((Turn.refl [] wy).alloc (.cells #[.int .i64 x1, .int .i64 x2, .int .i64 x3, .int .i64 x4, .bool true, .int .i64 hd, .int .i64 sn, .int .i64 ic] 94))
            have BX0 := Lib.hid (Blk.new wy 94 #[.int .i64 x1, .int .i64 x2, .int .i64 x3, .int .i64 x4, .bool true, .int .i64 hd, .int .i64 sn, .int .i64 ic])
            go_wp2_with fail
            refine HS2.out.mono ?_
            rintro e wx ⟨rfl, hTx⟩
            have TX := TX0.out.trans hTx
            have BX := hTx.blk BX0.out (by simp)
            clear y0 y1 y2 y3 y4 y5 y6 y7 s4 rl gl
            clear hTx
            generalize decide (x4 ∈ rv) = bb at *
            cases bb with
            | true =>
              go_upto_region 8 with fail
              have z0 := BX.cell 0
              have z1 := BX.cell 1
              have z2 := BX.cell 2
              have z3 := BX.cell 3
              have z4 := BX.cell 4
              have z5 := BX.cell 5
              have z6 := BX.cell 6
              have z7 := BX.cell 7
              have zl := BX.lt
              have hzx := TX.size
              have HO := Lib.hid (own_turnA OD.out TX (by simp))
              have HE := Lib.hid (own_turnA OE.out TX (by simp))
              have HTX := Lib.hid (HTT.out.trans TX)
              clear BX TX
              go_wp2_with (at_builtin; refine wpList_append_sl elemR rfl _ _ rfl D nd cd _ rfl (HO.out.alloc _) (some ⟨wx.heap.size, 0, none⟩) 1 1 [.int .i64 x1, .int .i64 x2, .int .i64 x3, .int .i64 x4] rfl (Sl.new _ #[.int .i64 x1, .int .i64 x2, .int .i64 x3, .int .i64 x4] _) (by simp) (by simp [Value.oneCell']) (by omega) (by omega) (by simp; omega) ?_; intro D2 cd2 w6 own6 hg6 hlie6)
              have T6 := (HTX.out.alloc (.cells #[.int .i64 x1, .int .i64 x2, .int .i64 x3, .int .i64 x4] 30)).andThen (grown_turn hg6) (fun x hx => .inr (own_ltA HO.out x hx).2)
              go_roundw
              case rel => exact ⟨k + 1, by omega, by go_num, D2, nd + 1, cd2, D', nd', cd', rfl, rfl, by omega, by omega, by rw [e1.out, if_pos hv.out]; exact own6, by rw [e2.out, if_pos hv.out, List.append_nil]; exact own_turnA (HE.out.alloc _) (grown_turn hg6) (fun i hi hm => HAP.out i hm hi), fun i hi hm => by
                rcases lies_blks hlie6 i hi with h | h
                · exact HAP.out i h hm
                · have := (own_ltA HE.out i hm).1
                  subst h
                  simp at this
                  omega, T6⟩
              case measure => simp [intOf]; omega
            | false =>
              go_upto_region 9 with fail
              have z0 := BX.cell 0
              have z1 := BX.cell 1
              have z2 := BX.cell 2
              have z3 := BX.cell 3
              have z4 := BX.cell 4
              have z5 := BX.cell 5
              have z6 := BX.cell 6
              have z7 := BX.cell 7
              have zl := BX.lt
              have hzx := TX.size
              have HO := Lib.hid (own_turnA OD.out TX (by simp))
              have HE := Lib.hid (own_turnA OE.out TX (by simp))
              have HTX := Lib.hid (HTT.out.trans TX)
              clear BX TX
              go_wp2_with (at_builtin; refine wpList_append_sl elemRE rfl _ _ rfl D' nd' cd' _ rfl (HE.out.alloc _) (some ⟨wx.heap.size, 0, none⟩) 1 1 [.int .i64 x1, .int .i64 x2, .int .i64 x3, .int .i64 x4, .bool true, .int .i64 hd, .int .i64 sn, .int .i64 ic] rfl (Sl.new _ #[.int .i64 x1, .int .i64 x2, .int .i64 x3, .int .i64 x4, .bool true, .int .i64 hd, .int .i64 sn, .int .i64 ic] _) (by simp) (by simp [Value.oneCell']) (by omega) (by omega) (by simp; omega) ?_; intro D2 cd2 w6 own6 hg6 hlie6)
              have T6 := (HTX.out.alloc (.cells #[.int .i64 x1, .int .i64 x2, .int .i64 x3, .int .i64 x4, .bool true, .int .i64 hd, .int .i64 sn, .int .i64 ic] 94)).andThen (grown_turn hg6) (fun x hx => .inr (own_ltA HE.out x hx).2)
              go_roundw
              case rel => exact ⟨k + 1, by omega, by go_num, D, nd, cd, D2, nd' + 1, cd2, rfl, rfl, by omega, by omega, by rw [e1.out, if_neg (by rw [hv.out]; simp), List.append_nil]; exact own_turnA (HO.out.alloc _) (grown_turn hg6) (fun i hi hm => HAP.out i hi hm), by rw [e2.out, if_neg (by rw [hv.out]; simp)]; exact own6, fun i hi hm => by
                rcases lies_blks hlie6 i hm with h | h
                · exact HAP.out i hi h
                · have := (own_ltA HO.out i hi).1
                  subst h
                  simp at this
                  omega, T6⟩
              case measure => simp [intOf]; omega
          | false =>
            clear hl
            have HS2 := Lib.hid (HS.out (wy.alloc (.cells #[.int .i64 x1, .int .i64 x2, .int .i64 x3, .int .i64 x4, .bool false, .int .i64 hd, .int .i64 sn, .int .i64 ic] 94)) (HTT.out.alloc _) x4)
            have TX0 := Lib.hid ((Turn.refl [] wy).alloc (.cells #[.int .i64 x1, .int .i64 x2, .int .i64 x3, .int .i64 x4, .bool false, .int .i64 hd, .int .i64 sn, .int .i64 ic] 94))
            have BX0 := Lib.hid (Blk.new wy 94 #[.int .i64 x1, .int .i64 x2, .int .i64 x3, .int .i64 x4, .bool false, .int .i64 hd, .int .i64 sn, .int .i64 ic])
            go_wp2_with fail
            refine HS2.out.mono ?_
            rintro e wx ⟨rfl, hTx⟩
            have TX := TX0.out.trans hTx
            have BX := hTx.blk BX0.out (by simp)
            clear y0 y1 y2 y3 y4 y5 y6 y7 s4 rl gl
            clear hTx
            generalize decide (x4 ∈ rv) = bb at *
            cases bb with
            | true =>
              go_upto_region 8 with fail
              have z0 := BX.cell 0
              have z1 := BX.cell 1
              have z2 := BX.cell 2
              have z3 := BX.cell 3
              have z4 := BX.cell 4
              have z5 := BX.cell 5
              have z6 := BX.cell 6
              have z7 := BX.cell 7
              have zl := BX.lt
              have hzx := TX.size
              have HO := Lib.hid (own_turnA OD.out TX (by simp))
              have HE := Lib.hid (own_turnA OE.out TX (by simp))
              have HTX := Lib.hid (HTT.out.trans TX)
              clear BX TX
              go_wp2_with (at_builtin; refine wpList_append_sl elemR rfl _ _ rfl D nd cd _ rfl (HO.out.alloc _) (some ⟨wx.heap.size, 0, none⟩) 1 1 [.int .i64 x1, .int .i64 x2, .int .i64 x3, .int .i64 x4] rfl (Sl.new _ #[.int .i64 x1, .int .i64 x2, .int .i64 x3, .int .i64 x4] _) (by simp) (by simp [Value.oneCell']) (by omega) (by omega) (by simp; omega) ?_; intro D2 cd2 w6 own6 hg6 hlie6)
              have T6 := (HTX.out.alloc (.cells #[.int .i64 x1, .int .i64 x2, .int .i64 x3, .int .i64 x4] 30)).andThen (grown_turn hg6) (fun x hx => .inr (own_ltA HO.out x hx).2)
              go_roundw
              case rel => exact ⟨k + 1, by omega, by go_num, D2, nd + 1, cd2, D', nd', cd', rfl, rfl, by omega, by omega, by rw [e1.out, if_pos hv.out]; exact own6, by rw [e2.out, if_pos hv.out, List.append_nil]; exact own_turnA (HE.out.alloc _) (grown_turn hg6) (fun i hi hm => HAP.out i hm hi), fun i hi hm => by
                rcases lies_blks hlie6 i hi with h | h
                · exact HAP.out i h hm
                · have := (own_ltA HE.out i hm).1
                  subst h
                  simp at this
                  omega, T6⟩
              case measure => simp [intOf]; omega
            | false =>
              go_upto_region 9 with fail
              have z0 := BX.cell 0
              have z1 := BX.cell 1
              have z2 := BX.cell 2
              have z3 := BX.cell 3
              have z4 := BX.cell 4
              have z5 := BX.cell 5
              have z6 := BX.cell 6
              have z7 := BX.cell 7
              have zl := BX.lt
              have hzx := TX.size
              have HO := Lib.hid (own_turnA OD.out TX (by simp))
              have HE := Lib.hid (own_turnA OE.out TX (by simp))
              have HTX := Lib.hid (HTT.out.trans TX)
              clear BX TX
              go_wp2_with (at_builtin; refine wpList_append_sl elemRE rfl _ _ rfl D' nd' cd' _ rfl (HE.out.alloc _) (some ⟨wx.heap.size, 0, none⟩) 1 1 [.int .i64 x1, .int .i64 x2, .int .i64 x3, .int .i64 x4, .bool false, .int .i64 hd, .int .i64 sn, .int .i64 ic] rfl (Sl.new _ #[.int .i64 x1, .int .i64 x2, .int .i64 x3, .int .i64 x4, .bool false, .int .i64 hd, .int .i64 sn, .int .i64 ic] _) (by simp) (by simp [Value.oneCell']) (by omega) (by omega) (by simp; omega) ?_; intro D2 cd2 w6 own6 hg6 hlie6)
              have T6 := (HTX.out.alloc (.cells #[.int .i64 x1, .int .i64 x2, .int .i64 x3, .int .i64 x4, .bool false, .int .i64 hd, .int .i64 sn, .int .i64 ic] 94)).andThen (grown_turn hg6) (fun x hx => .inr (own_ltA HE.out x hx).2)
              go_roundw
              case rel => exact ⟨k + 1, by omega, by go_num, D, nd, cd, D2, nd' + 1, cd2, rfl, rfl, by omega, by omega, by rw [e1.out, if_neg (by rw [hv.out]; simp), List.append_nil]; exact own_turnA (HO.out.alloc _) (grown_turn hg6) (fun i hi hm => HAP.out i hi hm), by rw [e2.out, if_neg (by rw [hv.out]; simp)]; exact own6, fun i hi hm => by
                rcases lies_blks hlie6 i hm with h | h
                · exact HAP.out i hi h
                · have := (own_ltA HO.out i hi).1
                  subst h
                  simp at this
                  omega, T6⟩
              case measure => simp [intOf]; omega
    · obtain rfl : k = n := by omega
      have k1 : ¬ (k : Int) < (k : Int) := by omega
      obtain ⟨-, -, -, -, s4, rl⟩ := h3.cells
      rw [List.take_of_length_le (by omega)] at oD oE
      have f4 := h3.blk.frozen 4
      have hlt5 := own_ltA oE
      have NR := Lib.hid (h3.newrow D' nd' cd' _ oE rl0)
      have OD := Lib.hid oD
      have HAP := Lib.hid hap
      have HTT := Lib.hid hT
      have hrd : r ∉ blks D := fun hm => by have := (own_ltA oD r hm).2; omega
      clear oE oD h3 hap hT
      go_wp2_with fail
      go_ret
      exact ⟨D, nd, cd, by simp, own_turnA OD.out NR.out.2 (fun i hi hm => by simp at hm; exact hrd (hm ▸ hi)), D', ⟨nd', cd', NR.out.1⟩, fun x hx => (hlt5 x hx).2, (HTT.out.mono (by simp)).trans NR.out.2⟩
end Go.Proofs.Ytelagneielahhaa
