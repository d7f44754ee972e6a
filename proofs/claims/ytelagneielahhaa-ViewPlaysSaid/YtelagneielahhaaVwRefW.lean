/- The reference's view: Note, Doubt, Hear (stores in place). -/
import Derived.Test.YtelagneielahhaaVwRefV
namespace Go.Proofs.Ytelagneielahhaa
open Go.RowKit Go.ChangeMaps Go.MapKept

theorem ecs_cons (e : En) (l : List En) : ecs (e :: l) = ecs [e] ++ ecs l := ecs_append [e] l
theorem ecs_set : ∀ (l : List En) (k : Nat) (hk : k < l.length) (j : Nat) (v : Value) (e' : En), j < 8 → (ecs [l[k]]).set j v = ecs [e'] → (ecs l).set (k * 8 + j) v = ecs (l.set k e')
  | e :: l, 0, _, j, v, e', hj, h => by
    rw [List.set_cons_zero, ecs_cons e l, ecs_cons e' l, Nat.zero_mul, Nat.zero_add, List.set_append_left _ _ (by rw [ecs_len]; simpa using hj)]
    rw [← h]
    rfl
  | e :: l, k + 1, hk, j, v, e', hj, h => by
    have h1 : (ecs [e]).length = 8 := by rw [ecs_len]; rfl
    have e1 : (k + 1) * 8 + j - (ecs [e]).length = k * 8 + j := by omega
    rw [List.set_cons_succ, ecs_cons e l, ecs_cons e (l.set k e'), List.set_append_right _ _ (by omega), e1, ecs_set l k (by simpa using hk) j v e' hj h]
theorem ecs_set4 (l : List En) (k : Nat) (hk : k < l.length) (b : Bool) : (ecs l).set (k * 8 + 4) (.bool b) = ecs (l.set k { l[k] with down := b }) := ecs_set l k hk 4 _ _ (by omega) rfl
theorem ecs_set5 (l : List En) (k : Nat) (hk : k < l.length) (b : Int) : (ecs l).set (k * 8 + 5) (.int .i64 b) = ecs (l.set k { l[k] with heard := b }) := ecs_set l k hk 5 _ _ (by omega) rfl
theorem ecs_set6 (l : List En) (k : Nat) (hk : k < l.length) (b : Int) : (ecs l).set (k * 8 + 6) (.int .i64 b) = ecs (l.set k { l[k] with since := b }) := ecs_set l k hk 6 _ _ (by omega) rfl
theorem ecs_set7 (l : List En) (k : Nat) (hk : k < l.length) (b : Int) : (ecs l).set (k * 8 + 7) (.int .i64 b) = ecs (l.set k { l[k] with inc := b }) := ecs_set l k hk 7 _ _ (by omega) rfl
/-- A cell of the row is stored. -/
theorem RVIs.cellset {w : World} {r : Nat} {own : C4} {g n c : Nat} {m m' : VM} (h : RVIs w r own (some ⟨g, 0, none⟩) n c m) (j : Nat) (hj : j < n * 8) (v : Value) (he : (ecs (m.map (·.2))).set j v = ecs (m'.map (·.2))) :
    RVIs (w.setCell ⟨g, j, none⟩ v) r own (some ⟨g, 0, none⟩) n c m' ∧ Turn [g] w (w.setCell ⟨g, j, none⟩ v) := by
  have T : Turn [g] w (w.setCell ⟨g, j, none⟩ v) := (Turn.refl [g] w).setCell (.inl (by simp)) _
  have hne := (h.blks_ok g (by simp [blks])).2
  obtain ⟨base, h3, h4⟩ := h.row
  refine ⟨⟨T.blk h.blk (by simpa using Ne.symm hne), base, h3, ?_⟩, T⟩
  have := own_set h4 j hj v
  rwa [he] at this
/-- An entry's place. -/
theorem RVIs.place {w : World} {r : Nat} {own : C4} {A : Option Addr} {n c : Nat} {m : VM} (h : RVIs w r own A n c m) {k : Nat} (hk : k < m.length) :
    ∃ g, A = some ⟨g, 0, none⟩ ∧ g < w.heap.size ∧ g ≠ r ∧ (∀ j, w.frozen? ⟨g, j, none⟩ = false) ∧
      (w.cell? ⟨g, k * 8, none⟩ = some (.int .i64 m[k].2.c.1) ∧ w.cell? ⟨g, k * 8 + 1, none⟩ = some (.int .i64 m[k].2.c.2.1) ∧ w.cell? ⟨g, k * 8 + 2, none⟩ = some (.int .i64 m[k].2.c.2.2.1) ∧ w.cell? ⟨g, k * 8 + 3, none⟩ = some (.int .i64 m[k].2.c.2.2.2) ∧
       w.cell? ⟨g, k * 8 + 4, none⟩ = some (.bool m[k].2.down) ∧ w.cell? ⟨g, k * 8 + 5, none⟩ = some (.int .i64 m[k].2.heard) ∧ w.cell? ⟨g, k * 8 + 6, none⟩ = some (.int .i64 m[k].2.since) ∧ w.cell? ⟨g, k * 8 + 7, none⟩ = some (.int .i64 m[k].2.inc)) := by
  have hlen := h.len
  obtain ⟨base, h3, h4⟩ := h.row
  have hne := h.blks_ok
  obtain ⟨b, off, hA, hb, X⟩ := ecs_at h.sl (k := k) (by simpa using hk)
  subst hA
  have hoff : off = 0 := by
    rcases h4.2 with h1 | ⟨gb, cap', cur, hv, -⟩
    · simp at h1
    · cases hv; rfl
  subst hoff
  obtain ⟨cur, hg, -⟩ := own_heap h4
  refine ⟨b, rfl, hb, (hne b (by simp [blks])).2, fun j => (show Blk w b _ cur from hg).frozen j, ?_⟩
  simpa using X
set_option maxRecDepth 100000 in
set_option maxHeartbeats 4000000 in
theorem rNote_c {w : World} {r : Nat} {own : C4} {A : Option Addr} {n c : Nat} {m : VM} (h : RVIs w r own A n c m) (hok : VOk m) (hr : Rises m) (hl : n ≤ 1000000) (id inc : Int) :
    Calls Try.prog 30 #[.pointer (some ⟨r, 0, none⟩), .int .i64 id, .int .i64 inc] w fun e w' => e = .returned (.int .i64 (noteR m id inc).1) ∧ RVIs w' r own A n c (noteR m id inc).2 ∧ Turn (blks A) w w' := by
  have FC := rFind_c h hok.key hl id
  have HR := Lib.hid h
  have HN := h.len
  unfold noteR
  obtain ⟨-, -, -, -, c4, rl⟩ := h.cells
  rcases findI_cases m id with ⟨hg, hf⟩ | ⟨k, hk, a, hg, hf, hmk⟩
  · rw [hf] at FC
    rw [hg]
    have HFC := Lib.hid FC
    clear FC hf hg h
    go_enter Try.func30, Try.ntmps30
    go_wp2_with fail
    refine HFC.out.mono ?_
    rintro e w1 ⟨rfl, rfl⟩
    go_wp2_with fail
    go_ret
    exact ⟨by simp, HR.out, Turn.refl _ _⟩
  · rw [hf] at FC
    rw [hg]
    obtain ⟨g, rfl, gl, gr, fr, y0, y1, y2, y3, y4, y5, y6, y7⟩ := h.place hk
    have i0 : (0 : Int) ≤ (k : Int) := Int.natCast_nonneg _
    have i1 : (k : Int) < (n : Int) := by omega
    rw [hmk] at y0 y1 y2 y3 y4 y5 y6 y7
    have HFC := Lib.hid FC
    have f7 := fr (k * 8 + 7)
    by_cases hi : inc ≤ a.inc
    · simp only [if_pos hi]
      generalize a.inc = ai at *
      clear FC hf hg h fr y0 y1 y2 y3 y4 y5 y6
      go_enter Try.func30, Try.ntmps30
      go_wp2_with fail
      refine HFC.out.mono ?_
      rintro e w1 ⟨rfl, rfl⟩
      go_wp2_with fail
      go_ret
      exact ⟨by simp, HR.out, Turn.refl _ _⟩
    · simp only [if_neg hi]
      have SE := h.cellset (m' := m.set k (id, { a with inc := inc })) (k * 8 + 7) (by omega) (.int .i64 inc) (by
        rw [ecs_set7 _ k (by simpa using hk), List.map_set]
        simp [hmk])
      rw [← kput_old_at hr hk (by rw [hmk])] at SE
      have HSE := Lib.hid SE
      generalize a.inc = ai at *
      clear FC hf hg h fr y0 y1 y2 y3 y4 y5 y6 SE
      go_enter Try.func30, Try.ntmps30
      go_wp2_with fail
      refine HFC.out.mono ?_
      rintro e w1 ⟨rfl, rfl⟩
      go_wp2_with fail
      go_ret
      exact ⟨by simp, HSE.out.1, by simpa [blks] using HSE.out.2⟩
set_option maxRecDepth 100000 in
set_option maxHeartbeats 4000000 in
theorem rDoubt_c {w : World} {r : Nat} {own : C4} {A : Option Addr} {n c : Nat} {m : VM} (h : RVIs w r own A n c m) (hok : VOk m) (hr : Rises m) (hl : n ≤ 1000000) (id tick : Int) :
    Calls Try.prog 29 #[.pointer (some ⟨r, 0, none⟩), .int .i64 id, .int .i64 tick] w fun e w' => e = .returned (.int .i64 (doubtR m id tick).1) ∧ RVIs w' r own A n c (doubtR m id tick).2 ∧ Turn (blks A) w w' := by
  have FC := rFind_c h hok.key hl id
  have HR := Lib.hid h
  have HN := h.len
  unfold doubtR
  obtain ⟨-, -, -, -, c4, rl⟩ := h.cells
  rcases findI_cases m id with ⟨hg, hf⟩ | ⟨k, hk, a, hg, hf, hmk⟩
  · rw [hf] at FC
    rw [hg]
    have HFC := Lib.hid FC
    clear FC hf hg h
    go_enter Try.func29, Try.ntmps29
    go_wp2_with fail
    refine HFC.out.mono ?_
    rintro e w1 ⟨rfl, rfl⟩
    go_wp2_with fail
    go_ret
    exact ⟨by simp, HR.out, Turn.refl _ _⟩
  · rw [hf] at FC
    rw [hg]
    obtain ⟨g, rfl, gl, gr, fr, y0, y1, y2, y3, y4, y5, y6, y7⟩ := h.place hk
    have i0 : (0 : Int) ≤ (k : Int) := Int.natCast_nonneg _
    have i1 : (k : Int) < (n : Int) := by omega
    rw [hmk] at y0 y1 y2 y3 y4 y5 y6 y7
    have HFC := Lib.hid FC
    have f4 := fr (k * 8 + 4)
    have f6 := fr (k * 8 + 6)
    cases hd : a.down with
    | true =>
      rw [hd] at y4
      simp only [hd, if_true]
      clear FC hf hg h fr y0 y1 y2 y3 y5 y6 y7
      go_enter Try.func29, Try.ntmps29
      go_wp2_with fail
      refine HFC.out.mono ?_
      rintro e w1 ⟨rfl, rfl⟩
      go_wp2_with fail
      go_ret
      exact ⟨by simp, HR.out, Turn.refl _ _⟩
    | false =>
      rw [hd] at y4
      simp only [hd, Bool.false_eq_true, if_false]
      have SE1 := h.cellset (m' := m.set k (id, { a with down := true })) (k * 8 + 4) (by omega) (.bool true) (by
        rw [ecs_set4 _ k (by simpa using hk), List.map_set]
        simp [hmk])
      have hz := SE1.1.turn0 (Turn.refl [] (w.setCell ⟨g, k * 8 + 4, none⟩ (.bool true))).drew
      obtain ⟨g', hgg, gl', gr', fr', -, -, -, -, -, -, z6, -⟩ := hz.place (k := k) (by simpa using hk)
      cases hgg
      have fz6 := fr' (k * 8 + 6)
      simp only [List.getElem_set_self] at z6
      have SE2 := hz.cellset (m' := m.set k (id, { a with down := true, since := tick })) (k * 8 + 6) (by omega) (.int .i64 tick) (by
        rw [ecs_set6 _ k (by simpa using hk)]
        simp [List.map_set])
      rw [← kput_old_at hr hk (by rw [hmk])] at SE2
      have HSE := Lib.hid (And.intro SE2.1 ((SE1.2.drew).trans SE2.2))
      clear FC hf hg h fr fr' gl' gr' y0 y1 y2 y3 y5 y7 SE1 SE2 hz
      go_enter Try.func29, Try.ntmps29
      go_wp2_with fail
      refine HFC.out.mono ?_
      rintro e w1 ⟨rfl, rfl⟩
      go_wp2_with fail
      go_region_law (fail)
      all_goals
        go_wp2_with fail
        go_ret
        exact ⟨by simp, HSE.out.1, HSE.out.2⟩
set_option maxRecDepth 100000 in
set_option maxHeartbeats 4000000 in
theorem rHear_c {w : World} {r : Nat} {own : C4} {A : Option Addr} {n c : Nat} {m : VM} (h : RVIs w r own A n c m) (hok : VOk m) (hr : Rises m) (hl : n ≤ 1000000) (c1 c2 c3 c4 tick : Int) :
    Calls Try.prog 28 #[.pointer (some ⟨r, 0, none⟩), .agg #[.int .i64 c1, .int .i64 c2, .int .i64 c3, .int .i64 c4], .int .i64 tick] w fun e w' => e = .returned (.int .i64 (hearR m (c1, c2, c3, c4) tick).1) ∧ RVIs w' r own A n c (hearR m (c1, c2, c3, c4) tick).2 ∧ Turn (blks A) w w' := by
  have T0 : Turn [] w (w.alloc (.cells #[.int .i64 c1, .int .i64 c2, .int .i64 c3, .int .i64 c4] 30)) := (Turn.refl [] w).alloc _
  have B0 := Blk.new w 30 #[.int .i64 c1, .int .i64 c2, .int .i64 c3, .int .i64 c4]
  have hw := h.turn0 T0
  have FC := rFind_c hw hok.key hl c1
  have HR := Lib.hid hw
  have HN := h.len
  unfold hearR
  simp only
  obtain ⟨-, -, -, -, s4, rl⟩ := hw.cells
  rcases findI_cases m c1 with ⟨hg, hf⟩ | ⟨k, hk, a, hg, hf, hmk⟩
  · rw [hf] at FC
    rw [hg]
    have HFC := Lib.hid FC
    clear FC hf hg h hw B0
    go_enter Try.func28, Try.ntmps28
    go_wp2_with fail
    refine HFC.out.mono ?_
    rintro e w1 ⟨rfl, rfl⟩
    go_wp2_with fail
    go_quiet (fail)
    go_wp2_with fail
    go_ret
    exact ⟨by simp, HR.out.turn0 ((Turn.refl [] _).drewN _), (T0.drewN _).mono (by simp)⟩
  · rw [hf] at FC
    rw [hg]
    obtain ⟨g, rfl, gl, gr, fr, y0, y1, y2, y3, y4, y5, y6, y7⟩ := hw.place hk
    have i0 : (0 : Int) ≤ (k : Int) := Int.natCast_nonneg _
    have i1 : (k : Int) < (n : Int) := by omega
    have b0 := B0.cell 0
    have b1 := B0.cell 1
    have b2 := B0.cell 2
    have b3 := B0.cell 3
    have bl := B0.lt
    rw [hmk] at y0 y1 y2 y3 y4 y5 y6 y7
    have HFC := Lib.hid FC
    have f4 := fr (k * 8 + 4)
    have f5 := fr (k * 8 + 5)
    have f6 := fr (k * 8 + 6)
    obtain ⟨⟨x1, x2, x3, x4⟩, dn, hd, sn, ic⟩ := a
    simp only at y0 y1 y2 y3 y4 y5 y6 y7
    rcases c4_cases x1 x2 x3 x4 c1 c2 c3 c4 with ⟨rfl, rfl, rfl, rfl⟩ | ⟨hne, hc⟩
    · simp only [if_true]
      have HKP := Lib.hid (kput_old_at hr hk (show m[k].1 = x1 by rw [hmk]) ⟨(x1, x2, x3, x4), false, max hd tick, 0, ic⟩)
      have HMK := Lib.hid hmk
      clear FC hf hg h hw fr y4 y5 y6 y7 B0 f4 f5 f6 hmk
      go_enter Try.func28, Try.ntmps28
      go_wp2_with fail
      refine HFC.out.mono ?_
      rintro e w1 ⟨rfl, rfl⟩
      go_upto_region 2 with fail
      go_cut [25] (fun x wc => x = .bool false ∧ Turn [] (w.alloc (.cells #[.int .i64 x1, .int .i64 x2, .int .i64 x3, .int .i64 x4] 30)) wc)
      case first =>
        go_quiet (fail)
        go_wp2_with fail
        go_meet
        case rel => exact ⟨rfl, (Turn.refl [] _).drewN _⟩
      case rest =>
        obtain ⟨rfl, hT2⟩ := hcut
        generalize hwc : wc = w2 at *
        clear hwc y0 y1 y2 y3 b0 b1 b2 b3 bl s4 rl gl
        have h2 := HR.out.turn0 hT2
        obtain ⟨-, -, -, -, s4, rl⟩ := h2.cells
        obtain ⟨g', hgg, gl, gr', fr, y0, y1, y2, y3, y4, y5, y6, y7⟩ := h2.place hk
        cases hgg
        rw [HMK.out] at y0 y1 y2 y3 y4 y5 y6 y7
        simp only at y4 y6
        have f4 := fr (k * 8 + 4)
        have f6 := fr (k * 8 + 6)
        have SE1 := h2.cellset (m' := m.set k (x1, ⟨(x1, x2, x3, x4), false, hd, sn, ic⟩)) (k * 8 + 4) (by omega) (.bool false) (by
          rw [ecs_set4 _ k (by simpa using hk), List.map_set]
          simp [HMK.out])
        have hz := SE1.1.turn0 (Turn.refl [] (w2.setCell ⟨g, k * 8 + 4, none⟩ (.bool false))).drew
        obtain ⟨g', hgg, gl', gr', fr', -, -, -, -, -, -, z6, -⟩ := hz.place (k := k) (by simpa using hk)
        cases hgg
        have fz6 := fr' (k * 8 + 6)
        simp only [List.getElem_set_self] at z6
        have SE2 := hz.cellset (m' := m.set k (x1, ⟨(x1, x2, x3, x4), false, hd, 0, ic⟩)) (k * 8 + 6) (by omega) (.int .i64 0) (by
          rw [ecs_set6 _ k (by simpa using hk)]
          simp [List.map_set])
        have HSE := Lib.hid (And.intro SE2.1 ((((T0.trans hT2).mono (by simp)).trans (SE1.2.drew)).trans SE2.2))
        clear fr fr' gl' gr' y0 y1 y2 y3 y5 y7 SE1 SE2 hz h2 hT2
        go_upto_region 4 with fail
        go_cut [7] (fun x wc => x = .int .i64 ((k : Nat) : Int) ∧ RVIs wc r own (some ⟨g, 0, none⟩) n c (m.set k (x1, ⟨(x1, x2, x3, x4), false, hd, 0, ic⟩)) ∧ Turn [g] w wc)
        case first =>
          go_region_law (fail)
          all_goals
            go_wp2_with fail
            go_meet
            case rel => exact ⟨rfl, HSE.out.1, HSE.out.2⟩
        case rest =>
          obtain ⟨rfl, h3, hT3⟩ := hcut
          generalize hwc : wc = w3 at *
          clear hwc HSE y4 y6 f4 f6 z6 fz6 s4 rl gl
          obtain ⟨-, -, -, -, s4, rl⟩ := h3.cells
          obtain ⟨g', hgg, gl, gr', fr, -, -, -, -, -, y5, -, -⟩ := h3.place (k := k) (by simpa using hk)
          cases hgg
          simp only [List.getElem_set_self] at y5
          have f5 := fr (k * 8 + 5)
          have SE := h3.cellset (m' := m.set k (x1, ⟨(x1, x2, x3, x4), false, max hd tick, 0, ic⟩)) (k * 8 + 5) (by omega) (.int .i64 (max hd tick)) (by
            rw [ecs_set5 _ k (by simpa using hk)]
            simp [List.map_set])
          rw [← HKP.out] at SE
          have HSE := Lib.hid (And.intro SE.1 (hT3.trans SE.2))
          clear fr h3 hT3 SE
          go_wp2_with fail
          go_region_law (fail)
          all_goals
            go_wp2_with fail
            go_ret
            exact ⟨by simp, HSE.out.1.turn0 ((Turn.refl [] _).drew), HSE.out.2.drew⟩
    · simp only
      rw [if_neg hne]
      clear hne FC hf hg h hw fr y4 y5 y6 y7 B0 f4 f5 f6
      rcases hc with h1 | ⟨rfl, h1⟩ | ⟨rfl, rfl, h1⟩ | ⟨rfl, rfl, rfl, h1⟩
      all_goals
        go_enter Try.func28, Try.ntmps28
        go_wp2_with fail
        refine HFC.out.mono ?_
        rintro e w1 ⟨rfl, rfl⟩
        go_wp2_with fail
        go_quiet (fail)
        go_wp2_with fail
        go_ret
        exact ⟨by simp, HR.out.turn0 ((Turn.refl [] _).drewN _), (T0.drewN _).mono (by simp)⟩
end Go.Proofs.Ytelagneielahhaa
