/- vigillaw20's of and tells. -/
import Derived.Test.YtelagneielahhaaVwRefE
import Derived.Test.YtelagneielahhaaVwUp
namespace Go.Proofs.Ytelagneielahhaa
open Go.RowKit Go.ChangeMaps Go.MapKept

set_option maxRecDepth 100000 in
set_option maxHeartbeats 1000000 in
theorem ofE_c (x : En) (w : World) : Calls Try.prog 51 #[ven x] w fun e w' => e = .returned (ven x) ∧ Turn [] w w' := by
  obtain ⟨⟨x1, x2, x3, x4⟩, dn, hd, sn, ic⟩ := x
  unfold ven
  have T0 := (Turn.refl [] w).alloc (.cells #[.int .i64 x1, .int .i64 x2, .int .i64 x3, .int .i64 x4, .bool dn, .int .i64 hd, .int .i64 sn, .int .i64 ic] 37)
  have B0 := Lib.hid (Blk.new w 37 #[.int .i64 x1, .int .i64 x2, .int .i64 x3, .int .i64 x4, .bool dn, .int .i64 hd, .int .i64 sn, .int .i64 ic])
  have OC := Lib.hid (fun wz => of_c x1 x2 x3 x4 wz)
  go_enter Try.func51, Try.ntmps51
  go_wp2_with fail
  have TZ : Turn [] w ((w.alloc (.cells #[.int .i64 x1, .int .i64 x2, .int .i64 x3, .int .i64 x4, .bool dn, .int .i64 hd, .int .i64 sn, .int .i64 ic] 37)).alloc (.cells #[.int .i64 0, .int .i64 0, .int .i64 0, .int .i64 0, .bool false, .int .i64 0, .int .i64 0, .int .i64 0] 94)) := T0.alloc _
  have BX : Blk ((w.alloc (.cells #[.int .i64 x1, .int .i64 x2, .int .i64 x3, .int .i64 x4, .bool dn, .int .i64 hd, .int .i64 sn, .int .i64 ic] 37)).alloc (.cells #[.int .i64 0, .int .i64 0, .int .i64 0, .int .i64 0, .bool false, .int .i64 0, .int .i64 0, .int .i64 0] 94)) w.heap.size 37 #[.int .i64 x1, .int .i64 x2, .int .i64 x3, .int .i64 x4, .bool dn, .int .i64 hd, .int .i64 sn, .int .i64 ic] := B0.out.alloc _
  have BZ : Blk ((w.alloc (.cells #[.int .i64 x1, .int .i64 x2, .int .i64 x3, .int .i64 x4, .bool dn, .int .i64 hd, .int .i64 sn, .int .i64 ic] 37)).alloc (.cells #[.int .i64 0, .int .i64 0, .int .i64 0, .int .i64 0, .bool false, .int .i64 0, .int .i64 0, .int .i64 0] 94)) (w.heap.size + 1) 94 #[.int .i64 0, .int .i64 0, .int .i64 0, .int .i64 0, .bool false, .int .i64 0, .int .i64 0, .int .i64 0] := by
    have := Blk.new (w.alloc (.cells #[.int .i64 x1, .int .i64 x2, .int .i64 x3, .int .i64 x4, .bool dn, .int .i64 hd, .int .i64 sn, .int .i64 ic] 37)) 94 #[.int .i64 0, .int .i64 0, .int .i64 0, .int .i64 0, .bool false, .int .i64 0, .int .i64 0, .int .i64 0]
    simpa using this
  generalize hw0 : (w.alloc (.cells #[.int .i64 x1, .int .i64 x2, .int .i64 x3, .int .i64 x4, .bool dn, .int .i64 hd, .int .i64 sn, .int .i64 ic] 37)).alloc (.cells #[.int .i64 0, .int .i64 0, .int .i64 0, .int .i64 0, .bool false, .int .i64 0, .int .i64 0, .int .i64 0] 94) = w0 at *
  clear hw0 T0 B0
  have HBZ := Lib.hid BZ
  have AE : ∀ wy, Turn [w.heap.size + 1] w0 wy → (wy.cell? ⟨w.heap.size, 0, none⟩ = some (.int .i64 x1) ∧ wy.cell? ⟨w.heap.size, 1, none⟩ = some (.int .i64 x2) ∧ wy.cell? ⟨w.heap.size, 2, none⟩ = some (.int .i64 x3) ∧ wy.cell? ⟨w.heap.size, 3, none⟩ = some (.int .i64 x4) ∧ wy.cell? ⟨w.heap.size, 4, none⟩ = some (.bool dn) ∧ wy.cell? ⟨w.heap.size, 5, none⟩ = some (.int .i64 hd) ∧ wy.cell? ⟨w.heap.size, 6, none⟩ = some (.int .i64 sn) ∧ wy.cell? ⟨w.heap.size, 7, none⟩ = some (.int .i64 ic) ∧ Turn [w.heap.size + 1] w0 wy) := fun wy hy =>
    have B := hy.blk BX (by simp)
    ⟨B.cell 0, B.cell 1, B.cell 2, B.cell 3, B.cell 4, B.cell 5, B.cell 6, B.cell 7, hy⟩
  have T5 : Turn [] w0 w0.drew := (Turn.refl [] w0).drew
  have T5m : Turn [w.heap.size + 1] w0 w0.drew := T5.mono (by simp)
  have TS : ∀ wy, Turn [w.heap.size + 1] w0 wy → Turn [w.heap.size + 1] w0 ((((((((((((((((wy.setCell ⟨w.heap.size + 1, 0, none⟩ (.int .i64 x1)).setCell ⟨w.heap.size + 1, 1, none⟩ (.int .i64 x2)).setCell ⟨w.heap.size + 1, 2, none⟩ (.int .i64 x3)).setCell ⟨w.heap.size + 1, 3, none⟩ (.int .i64 x4)).setCell ⟨w.heap.size + 1, 4, none⟩ (.bool dn)).setCell ⟨w.heap.size + 1, 5, none⟩ (.int .i64 hd)).setCell ⟨w.heap.size + 1, 6, none⟩ (.int .i64 sn)).setCell ⟨w.heap.size + 1, 7, none⟩ (.int .i64 ic)))))))))) := fun wy hy =>
    ((((((((hy.setCell (.inl (by simp)) _).setCell (.inl (by simp)) _).setCell (.inl (by simp)) _).setCell (.inl (by simp)) _).setCell (.inl (by simp)) _).setCell (.inl (by simp)) _).setCell (.inl (by simp)) _).setCell (.inl (by simp)) _)
  obtain ⟨b0, b1, b2, b3, b4, b5, b6, b7, -⟩ := AE w0 (Turn.refl _ w0)
  have bl := BX.lt
  have zl := BZ.lt
  clear BZ BX
  go_region_held3 (fun w' => w'.cell? ⟨w.heap.size, 0, none⟩ = some (.int .i64 x1) ∧ w'.cell? ⟨w.heap.size, 1, none⟩ = some (.int .i64 x2) ∧ w'.cell? ⟨w.heap.size, 2, none⟩ = some (.int .i64 x3) ∧ w'.cell? ⟨w.heap.size, 3, none⟩ = some (.int .i64 x4) ∧ w'.cell? ⟨w.heap.size, 4, none⟩ = some (.bool dn) ∧ w'.cell? ⟨w.heap.size, 5, none⟩ = some (.int .i64 hd) ∧ w'.cell? ⟨w.heap.size, 6, none⟩ = some (.int .i64 sn) ∧ w'.cell? ⟨w.heap.size, 7, none⟩ = some (.int .i64 ic) ∧ Turn [w.heap.size + 1] w0 w') (first | with_reducible exact AE _ T5m | with_reducible exact AE _ hT2m | with_reducible exact AE _ (TS _ hT2m))
    ((go_at_call 32; refine (OC.out _).mono ?_; rintro e w1 ⟨rfl, hT1⟩; have hT2 : Turn [] w0 w1 := T5.trans hT1; have hT2m : Turn [w.heap.size + 1] w0 w1 := hT2.mono (by simp); have B2 := hT2.blk HBZ.out (by simp); have z0 := B2.cell 0; have z1 := B2.cell 1; have z2 := B2.cell 2; have z3 := B2.cell 3; have z4 := B2.cell 4; have z5 := B2.cell 5; have z6 := B2.cell 6; have z7 := B2.cell 7; have f0 := B2.frozen 0; have f1 := B2.frozen 1; have f2 := B2.frozen 2; have f3 := B2.frozen 3; have f4 := B2.frozen 4; have f5 := B2.frozen 5; have f6 := B2.frozen 6; have f7 := B2.frozen 7; have zl2 := B2.lt))
  go_wp2_with fail
  refine bodyPost_ret (v := .agg #[.int .i64 x1, .int .i64 x2, .int .i64 x3, .int .i64 x4, .bool dn, .int .i64 hd, .int .i64 sn, .int .i64 ic]) ?_ rfl ⟨rfl, TZ.andThen (TS _ hT2m) (by simp)⟩
  simp [results, Try.results51, go_sem, z0, z1, z2, z3, z4, z5, z6, z7, zl2]
theorem upL_take {l : List Int} {m : VM} {i : Nat} (hi : i < m.length) : upL l (m.take (i + 1)) = upL l (m.take i) ++ (if upB l m[i].2 then [m[i].2.c.1] else []) := by
  unfold upL
  rw [List.take_succ_eq_append_getElem hi, List.map_append]
  show List.map _ (suchL _ (_ ++ [m[i].2])) = _
  by_cases h : upB l m[i].2 = true
  · rw [suchL_hit h, List.map_append, if_pos h]
    rfl
  · rw [suchL_miss (by simpa using h), if_neg h, List.append_nil]
theorem upL_get {l : List Int} {m : VM} {i : Nat} (hi : i < m.length) (h : upB l m[i].2 = true) : (upL l m)[(upL l (m.take i)).length]? = some m[i].2.c.1 := by
  have e : upL l m = upL l (m.take (i + 1)) ++ upL l (m.drop (i + 1)) := by
    conv => lhs; rw [← List.take_append_drop (i + 1) m]
    unfold upL
    rw [List.map_append]
    unfold suchL
    rw [List.filter_append, List.map_append, List.map_append]
  rw [e, upL_take hi, if_pos h, List.append_assoc, List.getElem?_append_right (Nat.le_refl _)]
  simp
set_option maxRecDepth 100000 in
set_option maxHeartbeats 4000000 in
theorem tells_c {w : World} {v mb r : Nat} {own : C4} {A : Option Addr} {n cc : Nat} {m : VM} (h : VIs w v mb own m) (hr : RVIs w r own A n cc m) (hok : VOk m) (c1 c2 c3 c4 : Int) (wf : (Lit.int .i64 c1).wf = true) :
    Calls Try.prog 35 #[.pointer (some ⟨v, 0, none⟩), .pointer (some ⟨r, 0, none⟩), .agg #[.int .i64 c1, .int .i64 c2, .int .i64 c3, .int .i64 c4]] w fun e w' => e = .returned (.bool true) ∧ Turn [] w w' := by
  have HV := Lib.hid h
  have HR := Lib.hid hr
  have HOK := Lib.hid hok
  have HN := hr.len
  have hl := h.le
  rw [HN] at hl
  have T0 : Turn [] w (w.alloc (.cells #[.int .i64 c1, .int .i64 c2, .int .i64 c3, .int .i64 c4] 30)) := (Turn.refl [] w).alloc _
  have B0 := Lib.hid (Blk.new w 30 #[.int .i64 c1, .int .i64 c2, .int .i64 c3, .int .i64 c4])
  have AC := Lib.hid (allV_c (h.turn T0 (by simp) (by simp)) hok.wf)
  obtain ⟨o1, o2, o3, o4⟩ := own
  have LN : Hid (∀ wy, Turn [] w wy → Calls Try.prog 21 #[.pointer (some ⟨v, 0, none⟩)] wy fun e w' => e = .returned (.int .i64 (n : Nat)) ∧ wy = w') := fun wy hy => by
    have := lenV_c (HV.out.turn hy (by simp) (by simp))
    rwa [HN] at this
  have OW : Hid (∀ wy, Turn [] w wy → Calls Try.prog 20 #[.pointer (some ⟨v, 0, none⟩)] wy fun e w' => e = .returned (.agg #[.int .i64 o1, .int .i64 o2, .int .i64 o3, .int .i64 o4]) ∧ Turn [] wy w') := fun wy hy =>
    ownV_c (HV.out.turn hy (by simp) (by simp))
  have OC := Lib.hid (fun wz => of_c o1 o2 o3 o4 wz)
  have FV := Lib.hid (fun wz (hT : Turn [] w wz) => findV_c (HV.out.turn hT (by simp) (by simp)) c1 wf)
  have HS := Lib.hid (fun wz (hT : Turn [] w wz) => hasV_c (HV.out.turn hT (by simp) (by simp)) c1 c2 c3 c4 wf)
  have FR := Lib.hid (fun wz (hT : Turn [] w wz) => rFind_c (HR.out.turn0 hT) HOK.out.key (by omega) c1)
  have TC := Lib.hid (fun wz => to_c c1 c2 c3 c4 wz)
  have EC := Lib.hid (fun x wz => ofE_c x wz)
  have UPC := Lib.hid (fun wz (hT : Turn [] w wz) => upV_c (HV.out.turn (hT.alloc (.cells #[.int .i64 c1] 3)) (by simp) (by simp)) HOK.out.wf (some ⟨wz.heap.size, 0, none⟩) 1 1 [c1] (Sl.new _ #[.int .i64 c1] _) rfl (by omega))
  clear h hr hok
  go_enter Try.func35, Try.ntmps35
  go_wp2_with fail
  refine AC.out.mono ?_
  rintro e w1 ⟨D, cd, rfl, oD, hT1⟩
  have OD := Lib.hid oD
  have T1 := T0.trans hT1
  have HT1 := Lib.hid T1
  have HB1 := Lib.hid (hT1.blk B0.out (by simp))
  have T2d : Turn [] w1 w1.drew := (Turn.refl [] w1).drew
  have AE : ∀ wy, Turn [] w1 wy → (wy.cell? ⟨r, 0, none⟩ = some (.int .i64 o1) ∧ wy.cell? ⟨r, 1, none⟩ = some (.int .i64 o2) ∧ wy.cell? ⟨r, 2, none⟩ = some (.int .i64 o3) ∧ wy.cell? ⟨r, 3, none⟩ = some (.int .i64 o4) ∧ wy.cell? ⟨r, 4, none⟩ = some (.slice A n cc) ∧ Turn [] w1 wy) := fun wy hy => by
    obtain ⟨q0, q1, q2, q3, q4, rl⟩ := (HR.out.turn0 (HT1.out.trans hy)).cells
    exact ⟨q0, q1, q2, q3, q4, hy⟩
  obtain ⟨q0, q1, q2, q3, q4, -⟩ := AE w1 (Turn.refl _ _)
  have rl := (HR.out.turn0 T1).blk.lt
  have hcd := (own_caps oD).1
  rw [HN] at OD hcd
  clear T1 hT1 oD
  go_wp2_with fail
  go_region_held3 (fun w' => w'.cell? ⟨r, 0, none⟩ = some (.int .i64 o1) ∧ w'.cell? ⟨r, 1, none⟩ = some (.int .i64 o2) ∧ w'.cell? ⟨r, 2, none⟩ = some (.int .i64 o3) ∧ w'.cell? ⟨r, 3, none⟩ = some (.int .i64 o4) ∧ w'.cell? ⟨r, 4, none⟩ = some (.slice A n cc) ∧ Turn [] w1 w') (first | with_reducible exact AE _ T2d | with_reducible exact AE _ T3 | with_reducible exact AE _ T4)
    (first
      | (go_at_call 21; refine (LN.out _ (HT1.out.trans T2d)).mono ?_; rintro e w2 ⟨rfl, rfl⟩)
      | (go_at_call 20; refine (OW.out _ (HT1.out.trans T2d)).mono ?_; rintro e w3 ⟨rfl, hT3⟩; have T3 : Turn [] w1 w3 := T2d.trans hT3)
      | (go_at_call 32; refine (OC.out _).mono ?_; rintro e w4 ⟨rfl, hT4⟩; have T4 : Turn [] w1 w4 := T3.trans hT4))
  have HT4 := Lib.hid (HT1.out.trans T4)
  have HB4 := Lib.hid (T4.blk HB1.out (by simp))
  have HOD4 := Lib.hid (own_turnA OD.out T4 (by simp))
  clear AE q0 q1 q2 q3 q4 rl T3 T4 hT3 hT4 T2d
  have b0 := HB4.out.cell 0
  have bl := HB4.out.lt
  go_wp2_with fail
  refine (UPC.out _ HT4.out).mono ?_
  rintro e w5 ⟨U, uc, rfl, oU, hT5⟩
  have HU := Lib.hid oU
  have hul : (upL [c1] m).length ≤ 16 := by
    unfold upL
    rw [List.length_map]
    have h1 := suchL_len (upB [c1]) (m.map (·.2))
    rw [List.length_map] at h1
    omega
  have hT5' : Turn [] w4 w5 := ((Turn.refl [] w4).alloc _).trans hT5
  have HT5 := Lib.hid (HT4.out.trans hT5')
  have HB5 := Lib.hid (hT5'.blk HB4.out (by simp))
  have HOD5 := Lib.hid (own_turnA HOD4.out hT5' (by simp))
  clear oU hT5 hT5' b0 bl
  generalize hun : (upL [c1] m).length = un at *
  have HUN := Lib.hid hun
  clear hun
  go_wp2_with fail
  go_loopw [9, 10] (fun kx ix wr => ∃ i : Nat, i ≤ n ∧ ix = .int .i64 ((i : Nat) : Int) ∧ kx = .int .i64 (((upL [c1] (m.take i)).length : Nat) : Int) ∧ Turn [] w5 wr) (fun _ ix _ => n - (intOf ix).toNat)
  case atStart => exact ⟨0, by omega, rfl, by simp [upL, suchL], Turn.refl _ _⟩
  case round =>
    obtain ⟨i, hi, rfl, rfl, hT⟩ := hrel
    obtain ⟨wx, rfl⟩ : ∃ wo : World, wo = wr := ⟨_, rfl⟩
    have i0 : (0 : Int) ≤ (i : Int) := Int.natCast_nonneg _
    have h6 := HR.out.turn0 (HT5.out.trans hT)
    by_cases hlt : i < n
    · have i1 : (i : Int) < (n : Int) := by omega
      have kx : i < m.length := by omega
      obtain ⟨-, -, -, -, s4, rl⟩ := h6.cells
      obtain ⟨g, rfl, gl, gr, fr, y0, y1, y2, y3, y4, y5, y6, y7⟩ := h6.place kx
      obtain ⟨db, dof, rfl, dl, z0, z1, z2, z3, z4, z5, z6, z7⟩ := ecs_at ((Sl.of_own HOD5.out).turn0 hT) (k := i) (by simpa using kx)
      rw [List.getElem_map] at z0 z1 z2 z3 z4 z5 z6 z7
      have hut := Lib.hid (upL_take (l := [c1]) kx)
      have hug := Lib.hid (upL_get (l := [c1]) kx)
      clear fr gr h6
      generalize hme : m[i].2 = me at *
      clear hme
      obtain ⟨⟨x1, x2, x3, x4⟩, dn, hd, sn, ic⟩ := me
      simp only at z0 z1 z2 z3 z4 z5 z6 z7 y0 y1 y2 y3 y4 y5 y6 y7
      have TD : Turn [] wx wx.drew := (Turn.refl [] wx).drew
      have AE : ∀ wy, Turn [] wx wy → (wy.cell? ⟨db, dof + i * 8, none⟩ = some (.int .i64 x1) ∧ wy.cell? ⟨db, dof + i * 8 + 1, none⟩ = some (.int .i64 x2) ∧ wy.cell? ⟨db, dof + i * 8 + 2, none⟩ = some (.int .i64 x3) ∧ wy.cell? ⟨db, dof + i * 8 + 3, none⟩ = some (.int .i64 x4) ∧ wy.cell? ⟨db, dof + i * 8 + 4, none⟩ = some (.bool dn) ∧ wy.cell? ⟨db, dof + i * 8 + 5, none⟩ = some (.int .i64 hd) ∧ wy.cell? ⟨db, dof + i * 8 + 6, none⟩ = some (.int .i64 sn) ∧ wy.cell? ⟨db, dof + i * 8 + 7, none⟩ = some (.int .i64 ic) ∧ wy.cell? ⟨g, i * 8, none⟩ = some (.int .i64 x1) ∧ wy.cell? ⟨g, i * 8 + 1, none⟩ = some (.int .i64 x2) ∧ wy.cell? ⟨g, i * 8 + 2, none⟩ = some (.int .i64 x3) ∧ wy.cell? ⟨g, i * 8 + 3, none⟩ = some (.int .i64 x4) ∧ wy.cell? ⟨g, i * 8 + 4, none⟩ = some (.bool dn) ∧ wy.cell? ⟨g, i * 8 + 5, none⟩ = some (.int .i64 hd) ∧ wy.cell? ⟨g, i * 8 + 6, none⟩ = some (.int .i64 sn) ∧ wy.cell? ⟨g, i * 8 + 7, none⟩ = some (.int .i64 ic) ∧ wy.cell? ⟨r, 4, none⟩ = some (.slice (some ⟨g, 0, none⟩) n cc) ∧ Turn [] wx wy) := fun wy hy =>
        ⟨(hy.cell dl (by simp)).trans z0, (hy.cell dl (by simp)).trans z1, (hy.cell dl (by simp)).trans z2, (hy.cell dl (by simp)).trans z3, (hy.cell dl (by simp)).trans z4, (hy.cell dl (by simp)).trans z5, (hy.cell dl (by simp)).trans z6, (hy.cell dl (by simp)).trans z7, (hy.cell gl (by simp)).trans y0, (hy.cell gl (by simp)).trans y1, (hy.cell gl (by simp)).trans y2, (hy.cell gl (by simp)).trans y3, (hy.cell gl (by simp)).trans y4, (hy.cell gl (by simp)).trans y5, (hy.cell gl (by simp)).trans y6, (hy.cell gl (by simp)).trans y7, (hy.cell rl (by simp)).trans s4, hy⟩
      have EX0 := EC.out ⟨(x1, x2, x3, x4), dn, hd, sn, ic⟩ wx.drew
      unfold ven at EX0
      have EX := Lib.hid EX0
      clear EX0
      go_wp2_with fail
      go_region_held3 (fun w' => w'.cell? ⟨db, dof + i * 8, none⟩ = some (.int .i64 x1) ∧ w'.cell? ⟨db, dof + i * 8 + 1, none⟩ = some (.int .i64 x2) ∧ w'.cell? ⟨db, dof + i * 8 + 2, none⟩ = some (.int .i64 x3) ∧ w'.cell? ⟨db, dof + i * 8 + 3, none⟩ = some (.int .i64 x4) ∧ w'.cell? ⟨db, dof + i * 8 + 4, none⟩ = some (.bool dn) ∧ w'.cell? ⟨db, dof + i * 8 + 5, none⟩ = some (.int .i64 hd) ∧ w'.cell? ⟨db, dof + i * 8 + 6, none⟩ = some (.int .i64 sn) ∧ w'.cell? ⟨db, dof + i * 8 + 7, none⟩ = some (.int .i64 ic) ∧ w'.cell? ⟨g, i * 8, none⟩ = some (.int .i64 x1) ∧ w'.cell? ⟨g, i * 8 + 1, none⟩ = some (.int .i64 x2) ∧ w'.cell? ⟨g, i * 8 + 2, none⟩ = some (.int .i64 x3) ∧ w'.cell? ⟨g, i * 8 + 3, none⟩ = some (.int .i64 x4) ∧ w'.cell? ⟨g, i * 8 + 4, none⟩ = some (.bool dn) ∧ w'.cell? ⟨g, i * 8 + 5, none⟩ = some (.int .i64 hd) ∧ w'.cell? ⟨g, i * 8 + 6, none⟩ = some (.int .i64 sn) ∧ w'.cell? ⟨g, i * 8 + 7, none⟩ = some (.int .i64 ic) ∧ w'.cell? ⟨r, 4, none⟩ = some (.slice (some ⟨g, 0, none⟩) n cc) ∧ Turn [] wx w') (first | with_reducible exact AE _ TD | with_reducible exact AE _ T6)
        ((go_at_call 51; refine EX.out.mono ?_; rintro e w6 ⟨rfl, hT6⟩; have T6 : Turn [] wx w6 := TD.trans hT6))
      have HT6 := Lib.hid (hT.trans T6)
      have HTx6 := Lib.hid T6
      have dl6 := Nat.lt_of_lt_of_le dl T6.size
      have gl6 := Nat.lt_of_lt_of_le gl T6.size
      have rl6 := Nat.lt_of_lt_of_le rl T6.size
      clear z0 z1 z2 z3 z4 z5 z6 z7 y0 y1 y2 y3 y4 y5 y6 y7 s4
      obtain ⟨z0, z1, z2, z3, z4, z5, z6, z7, y0, y1, y2, y3, y4, y5, y6, y7, s4, -⟩ := AE w6 T6
      have b0 := ((HT6.out).blk HB5.out (by simp)).cell 0
      have bl := ((HT6.out).blk HB5.out (by simp)).lt
      clear AE TD T6 hT6 dl gl rl z1 z2 z3 z5 z6 z7 y1 y2 y3 y5 y6 y7
      cases dn with
      | true =>
        have hut2 : Hid (upL [c1] (m.take (i + 1)) = upL [c1] (m.take i)) := by
          show _ = _
          rw [hut.out, if_neg (by simp [upB]), List.append_nil]
        go_wp2_with fail
        go_quiet (fail)
        go_wp2_with fail
        go_roundw
        case rel => exact ⟨i + 1, by omega, by go_num, by rw [hut2.out], HT6.out.drewN _⟩
        case measure => simp [intOf]; omega
      | false =>
        by_cases hxc : x1 = c1
        · have hut2 : Hid (upL [c1] (m.take (i + 1)) = upL [c1] (m.take i)) := by
            show _ = _
            rw [hut.out, if_neg (by simp [upB, hxc]), List.append_nil]
          subst hxc
          go_wp2_with fail
          go_quiet (fail)
          go_wp2_with fail
          go_roundw
          case rel => exact ⟨i + 1, by omega, by go_num, by rw [hut2.out], HT6.out.drewN _⟩
          case measure => simp [intOf]; omega
        · have hut2 : Hid (upL [c1] (m.take (i + 1)) = upL [c1] (m.take i) ++ [x1]) := by
            show _ = _
            rw [hut.out, if_pos (by simp [upB, hxc])]
          have hug2 := hug.out (by simp [upB, hxc])
          have g1 : (x1 == c1) = false := by simpa using hxc
          have hkl : (upL [c1] (m.take i)).length < un := by
            rw [← HUN.out]
            exact (List.getElem?_eq_some_iff.1 hug2).1
          have hle2 : Hid (((upL [c1] (m.take (i + 1))).length : Nat) = (upL [c1] (m.take i)).length + 1) := by
            show _ = _
            rw [hut2.out, List.length_append]
            rfl
          generalize (upL [c1] (m.take i)).length = q at *
          obtain ⟨ub, uo, rfl, ul, u0⟩ := ((Sl.of_own HU.out).turn0 HT6.out).at_ (k := q) (by simp [i64s]; rw [HUN.out]; exact hkl)
          rw [i64_get, (List.getElem?_eq_some_iff.1 hug2).2] at u0
          have q0 : (0 : Int) ≤ (q : Int) := Int.natCast_nonneg _
          have q1 : (q : Int) < (un : Int) := by omega
          have q2 : ¬ (un : Int) ≤ (q : Int) := by omega
          clear hug2 hut hug hxc
          go_wp2_with fail
          go_quiet (fail)
          go_wp2_with fail
          go_quiet (fail)
          go_wp2_with fail
          go_roundw
          case rel => exact ⟨i + 1, by omega, by go_num, by rw [hle2.out]; go_num, HT6.out.drewN _⟩
          case measure => simp [intOf]; omega
    · obtain rfl : i = n := by omega
      have i1 : ¬ (i : Int) < (i : Int) := by omega
      rw [List.take_of_length_le (by omega), HUN.out]
      have hTw := HT5.out.trans hT
      have HTW := Lib.hid hTw
      have BB := hT.blk HB5.out (by simp)
      have b0 := BB.cell 0
      have bl := BB.lt
      have HBB := Lib.hid BB
      clear h6 BB hTw
      rcases findI_cases m c1 with ⟨hg, hf⟩ | ⟨k, hk, a, hg, hf, hmk⟩
      · have FVX := FV.out wx HTW.out
        have he : findE m c1 = 7 := by simp [findE, hg]
        rw [hg, he] at FVX
        simp only [ven, en0, Option.getD_none] at FVX
        have HFV := Lib.hid FVX
        have hh : hasB m (c1, c2, c3, c4) = false := by unfold hasB; simp only [hg]
        have FRX := FR
        rw [hf] at FRX
        have HSX := HS
        rw [hh] at HSX
        clear FVX he hg hf FR HS FV
        go_wp2_with fail
        refine HFV.out.mono ?_
        rintro e w6 ⟨rfl, hT6⟩
        have B6 := hT6.blk HBB.out (by simp)
        have b0 := B6.cell 0
        have bl := B6.lt
        have HTX := Lib.hid (((HTW.out.trans hT6)).alloc (.cells #[.int .i64 0, .int .i64 0, .int .i64 0, .int .i64 0, .bool false, .int .i64 0, .int .i64 0, .int .i64 0] 37))
        have HBX := Lib.hid (Blk.new w6 37 #[.int .i64 0, .int .i64 0, .int .i64 0, .int .i64 0, .bool false, .int .i64 0, .int .i64 0, .int .i64 0])
        have HBC := Lib.hid (B6.alloc (.cells #[.int .i64 0, .int .i64 0, .int .i64 0, .int .i64 0, .bool false, .int .i64 0, .int .i64 0, .int .i64 0] 37))
        clear B6 hT6
        go_wp2_with fail
        refine (FRX.out _ HTX.out).mono ?_
        rintro e w7 ⟨rfl, rfl⟩
        generalize w6.alloc (.cells #[.int .i64 0, .int .i64 0, .int .i64 0, .int .i64 0, .bool false, .int .i64 0, .int .i64 0, .int .i64 0] 37) = w7 at *
        have b0 := HBC.out.cell 0
        have b1 := HBC.out.cell 1
        have b2 := HBC.out.cell 2
        have b3 := HBC.out.cell 3
        have bl := HBC.out.lt
        go_wp2_with fail
        refine (TC.out _).mono ?_
        rintro e w8 ⟨rfl, hT8⟩
        have HT8 := Lib.hid (HTX.out.trans hT8)
        go_wp2_with fail
        refine (HSX.out _ HT8.out).mono ?_
        rintro e w9 ⟨rfl, hT9⟩
        have HT9 := Lib.hid (HT8.out.trans hT9)
        go_wp2_with fail
        go_quiet (fail)
        go_wp2_with fail
        go_ret
        exact ⟨by simp, HT9.out.drewN _⟩
      · have FVX := FV.out wx HTW.out
        have he : findE m c1 = 0 := by simp [findE, hg]
        rw [hg, he] at FVX
        obtain ⟨⟨x1, x2, x3, x4⟩, dn, hd, sn, ic⟩ := a
        simp only [ven, Option.getD_some] at FVX
        have HFV := Lib.hid FVX
        have hh : hasB m (c1, c2, c3, c4) = decide (((x1, x2, x3, x4) : C4) = (c1, c2, c3, c4)) := by unfold hasB; simp only [hg]
        have FRX := FR
        rw [hf] at FRX
        have HSX := HS
        rw [hh] at HSX
        have k0 : (0 : Int) ≤ (k : Int) := Int.natCast_nonneg _
        have k1 : (k : Int) < (i : Int) := by omega
        have HMK := Lib.hid hmk
        clear FVX he hg hf FR HS FV hh hmk
        go_wp2_with fail
        refine HFV.out.mono ?_
        rintro e w6 ⟨rfl, hT6⟩
        have B6 := hT6.blk HBB.out (by simp)
        have b0 := B6.cell 0
        have bl := B6.lt
        have HTX := Lib.hid (((HTW.out.trans hT6)).alloc (.cells #[.int .i64 x1, .int .i64 x2, .int .i64 x3, .int .i64 x4, .bool dn, .int .i64 hd, .int .i64 sn, .int .i64 ic] 37))
        have HBX := Lib.hid (Blk.new w6 37 #[.int .i64 x1, .int .i64 x2, .int .i64 x3, .int .i64 x4, .bool dn, .int .i64 hd, .int .i64 sn, .int .i64 ic])
        have HBC := Lib.hid (B6.alloc (.cells #[.int .i64 x1, .int .i64 x2, .int .i64 x3, .int .i64 x4, .bool dn, .int .i64 hd, .int .i64 sn, .int .i64 ic] 37))
        clear B6 hT6
        go_wp2_with fail
        refine (FRX.out _ HTX.out).mono ?_
        rintro e w7 ⟨rfl, rfl⟩
        generalize w6.alloc (.cells #[.int .i64 x1, .int .i64 x2, .int .i64 x3, .int .i64 x4, .bool dn, .int .i64 hd, .int .i64 sn, .int .i64 ic] 37) = w7 at *
        have b0 := HBC.out.cell 0
        have b1 := HBC.out.cell 1
        have b2 := HBC.out.cell 2
        have b3 := HBC.out.cell 3
        have bl := HBC.out.lt
        have h7 := HR.out.turn0 HTX.out
        obtain ⟨-, -, -, -, s4, rl⟩ := h7.cells
        obtain ⟨g, rfl, gl, gr, fr, y0, y1, y2, y3, y4, y5, y6, y7⟩ := h7.place hk
        rw [HMK.out] at y0 y1 y2 y3 y4 y5 y6 y7
        simp only at y0 y1 y2 y3 y4 y5 y6 y7
        have xl := HBX.out.lt
        have AE : ∀ wy, Turn [] w7 wy → (wy.cell? ⟨w6.heap.size, 0, none⟩ = some (.int .i64 x1) ∧ wy.cell? ⟨w6.heap.size, 1, none⟩ = some (.int .i64 x2) ∧ wy.cell? ⟨w6.heap.size, 2, none⟩ = some (.int .i64 x3) ∧ wy.cell? ⟨w6.heap.size, 3, none⟩ = some (.int .i64 x4) ∧ wy.cell? ⟨w6.heap.size, 4, none⟩ = some (.bool dn) ∧ wy.cell? ⟨w6.heap.size, 5, none⟩ = some (.int .i64 hd) ∧ wy.cell? ⟨w6.heap.size, 6, none⟩ = some (.int .i64 sn) ∧ wy.cell? ⟨w6.heap.size, 7, none⟩ = some (.int .i64 ic) ∧ wy.cell? ⟨g, k * 8, none⟩ = some (.int .i64 x1) ∧ wy.cell? ⟨g, k * 8 + 1, none⟩ = some (.int .i64 x2) ∧ wy.cell? ⟨g, k * 8 + 2, none⟩ = some (.int .i64 x3) ∧ wy.cell? ⟨g, k * 8 + 3, none⟩ = some (.int .i64 x4) ∧ wy.cell? ⟨g, k * 8 + 4, none⟩ = some (.bool dn) ∧ wy.cell? ⟨g, k * 8 + 5, none⟩ = some (.int .i64 hd) ∧ wy.cell? ⟨g, k * 8 + 6, none⟩ = some (.int .i64 sn) ∧ wy.cell? ⟨g, k * 8 + 7, none⟩ = some (.int .i64 ic) ∧ wy.cell? ⟨w.heap.size, 0, none⟩ = some (.int .i64 c1) ∧ wy.cell? ⟨w.heap.size, 1, none⟩ = some (.int .i64 c2) ∧ wy.cell? ⟨w.heap.size, 2, none⟩ = some (.int .i64 c3) ∧ wy.cell? ⟨w.heap.size, 3, none⟩ = some (.int .i64 c4) ∧ wy.cell? ⟨r, 4, none⟩ = some (.slice (some ⟨g, 0, none⟩) i cc) ∧ Turn [] w7 wy) := fun wy hy =>
          have BX := hy.blk HBX.out (by simp)
          have BC := hy.blk HBC.out (by simp)
          ⟨BX.cell 0, BX.cell 1, BX.cell 2, BX.cell 3, BX.cell 4, BX.cell 5, BX.cell 6, BX.cell 7, (hy.cell gl (by simp)).trans y0, (hy.cell gl (by simp)).trans y1, (hy.cell gl (by simp)).trans y2, (hy.cell gl (by simp)).trans y3, (hy.cell gl (by simp)).trans y4, (hy.cell gl (by simp)).trans y5, (hy.cell gl (by simp)).trans y6, (hy.cell gl (by simp)).trans y7, BC.cell 0, BC.cell 1, BC.cell 2, BC.cell 3, (hy.cell rl (by simp)).trans s4, hy⟩
        obtain ⟨u0, u1, u2, u3, u4, u5, u6, u7, -⟩ := AE w7 (Turn.refl _ _)
        have TD : Turn [] w7 w7.drew := (Turn.refl [] w7).drew
        have EX0 := EC.out ⟨(x1, x2, x3, x4), dn, hd, sn, ic⟩ w7.drew
        unfold ven at EX0
        have EX := Lib.hid EX0
        clear EX0 fr gr h7
        rcases c4_cases x1 x2 x3 x4 c1 c2 c3 c4 with ⟨e1, e2, e3, e4⟩ | ⟨hne, hc⟩
        · rw [decide_eq_true (by rw [e1, e2, e3, e4])] at HSX
          have g1 : (x1 == c1) = true := by simpa using e1
          have g2 : (x2 == c2) = true := by simpa using e2
          have g3 : (x3 == c3) = true := by simpa using e3
          have g4 : (x4 == c4) = true := by simpa using e4
          clear e1 e2 e3 e4
          go_wp2_with fail
          go_region_held3 (fun w' => w'.cell? ⟨w6.heap.size, 0, none⟩ = some (.int .i64 x1) ∧ w'.cell? ⟨w6.heap.size, 1, none⟩ = some (.int .i64 x2) ∧ w'.cell? ⟨w6.heap.size, 2, none⟩ = some (.int .i64 x3) ∧ w'.cell? ⟨w6.heap.size, 3, none⟩ = some (.int .i64 x4) ∧ w'.cell? ⟨w6.heap.size, 4, none⟩ = some (.bool dn) ∧ w'.cell? ⟨w6.heap.size, 5, none⟩ = some (.int .i64 hd) ∧ w'.cell? ⟨w6.heap.size, 6, none⟩ = some (.int .i64 sn) ∧ w'.cell? ⟨w6.heap.size, 7, none⟩ = some (.int .i64 ic) ∧ w'.cell? ⟨g, k * 8, none⟩ = some (.int .i64 x1) ∧ w'.cell? ⟨g, k * 8 + 1, none⟩ = some (.int .i64 x2) ∧ w'.cell? ⟨g, k * 8 + 2, none⟩ = some (.int .i64 x3) ∧ w'.cell? ⟨g, k * 8 + 3, none⟩ = some (.int .i64 x4) ∧ w'.cell? ⟨g, k * 8 + 4, none⟩ = some (.bool dn) ∧ w'.cell? ⟨g, k * 8 + 5, none⟩ = some (.int .i64 hd) ∧ w'.cell? ⟨g, k * 8 + 6, none⟩ = some (.int .i64 sn) ∧ w'.cell? ⟨g, k * 8 + 7, none⟩ = some (.int .i64 ic) ∧ w'.cell? ⟨w.heap.size, 0, none⟩ = some (.int .i64 c1) ∧ w'.cell? ⟨w.heap.size, 1, none⟩ = some (.int .i64 c2) ∧ w'.cell? ⟨w.heap.size, 2, none⟩ = some (.int .i64 c3) ∧ w'.cell? ⟨w.heap.size, 3, none⟩ = some (.int .i64 c4) ∧ w'.cell? ⟨r, 4, none⟩ = some (.slice (some ⟨g, 0, none⟩) i cc) ∧ Turn [] w7 w') (first | with_reducible exact AE _ TD | with_reducible exact AE _ T8 | with_reducible exact AE _ T9 | with_reducible exact AE _ T10)
            (first
              | (go_at_call 51; refine EX.out.mono ?_; rintro e w8 ⟨rfl, hT8⟩; have T8 : Turn [] w7 w8 := TD.trans hT8)
              | (go_at_call 10; refine (TC.out _).mono ?_; rintro e w9 ⟨rfl, hT9⟩; have T9 : Turn [] w7 w9 := T8.trans hT9)
              | (go_at_call 19; refine (HSX.out _ (HTX.out.trans T9)).mono ?_; rintro e w10 ⟨rfl, hT10⟩; have T10 : Turn [] w7 w10 := T9.trans hT10))
          go_wp2_with fail
          go_ret
          exact ⟨by simp, HTX.out.trans T10⟩
        · rw [decide_eq_false hne] at HSX
          clear hne
          have hc2 : (x1 == c1) = false ∨ ((x1 == c1) = true ∧ (x2 == c2) = false) ∨ ((x1 == c1) = true ∧ (x2 == c2) = true ∧ (x3 == c3) = false) ∨ ((x1 == c1) = true ∧ (x2 == c2) = true ∧ (x3 == c3) = true ∧ (x4 == c4) = false) := by
            rcases hc with h1 | ⟨rfl, h1⟩ | ⟨rfl, rfl, h1⟩ | ⟨rfl, rfl, rfl, h1⟩
            · exact .inl h1
            · exact .inr (.inl ⟨by simp, h1⟩)
            · exact .inr (.inr (.inl ⟨by simp, by simp, h1⟩))
            · exact .inr (.inr (.inr ⟨by simp, by simp, by simp, h1⟩))
          clear hc
          rcases hc2 with h1 | ⟨h1, h2⟩ | ⟨h1, h2, h3⟩ | ⟨h1, h2, h3, h4⟩
          all_goals
            go_wp2_with fail
            go_region_held3 (fun w' => w'.cell? ⟨w6.heap.size, 0, none⟩ = some (.int .i64 x1) ∧ w'.cell? ⟨w6.heap.size, 1, none⟩ = some (.int .i64 x2) ∧ w'.cell? ⟨w6.heap.size, 2, none⟩ = some (.int .i64 x3) ∧ w'.cell? ⟨w6.heap.size, 3, none⟩ = some (.int .i64 x4) ∧ w'.cell? ⟨w6.heap.size, 4, none⟩ = some (.bool dn) ∧ w'.cell? ⟨w6.heap.size, 5, none⟩ = some (.int .i64 hd) ∧ w'.cell? ⟨w6.heap.size, 6, none⟩ = some (.int .i64 sn) ∧ w'.cell? ⟨w6.heap.size, 7, none⟩ = some (.int .i64 ic) ∧ w'.cell? ⟨g, k * 8, none⟩ = some (.int .i64 x1) ∧ w'.cell? ⟨g, k * 8 + 1, none⟩ = some (.int .i64 x2) ∧ w'.cell? ⟨g, k * 8 + 2, none⟩ = some (.int .i64 x3) ∧ w'.cell? ⟨g, k * 8 + 3, none⟩ = some (.int .i64 x4) ∧ w'.cell? ⟨g, k * 8 + 4, none⟩ = some (.bool dn) ∧ w'.cell? ⟨g, k * 8 + 5, none⟩ = some (.int .i64 hd) ∧ w'.cell? ⟨g, k * 8 + 6, none⟩ = some (.int .i64 sn) ∧ w'.cell? ⟨g, k * 8 + 7, none⟩ = some (.int .i64 ic) ∧ w'.cell? ⟨w.heap.size, 0, none⟩ = some (.int .i64 c1) ∧ w'.cell? ⟨w.heap.size, 1, none⟩ = some (.int .i64 c2) ∧ w'.cell? ⟨w.heap.size, 2, none⟩ = some (.int .i64 c3) ∧ w'.cell? ⟨w.heap.size, 3, none⟩ = some (.int .i64 c4) ∧ w'.cell? ⟨r, 4, none⟩ = some (.slice (some ⟨g, 0, none⟩) i cc) ∧ Turn [] w7 w') (first | with_reducible exact AE _ TD | with_reducible exact AE _ T8 | with_reducible exact AE _ T9 | with_reducible exact AE _ T10)
              (first
                | (go_at_call 51; refine EX.out.mono ?_; rintro e w8 ⟨rfl, hT8⟩; have T8 : Turn [] w7 w8 := TD.trans hT8)
                | (go_at_call 10; refine (TC.out _).mono ?_; rintro e w9 ⟨rfl, hT9⟩; have T9 : Turn [] w7 w9 := T8.trans hT9)
                | (go_at_call 19; refine (HSX.out _ (HTX.out.trans T9)).mono ?_; rintro e w10 ⟨rfl, hT10⟩; have T10 : Turn [] w7 w10 := T9.trans hT10))
            go_wp2_with fail
            go_ret
            exact ⟨by simp, HTX.out.trans T10⟩
end Go.Proofs.Ytelagneielahhaa
