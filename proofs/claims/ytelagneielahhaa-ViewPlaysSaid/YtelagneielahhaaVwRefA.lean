/- The reference's view: Add. -/
import Derived.Test.YtelagneielahhaaVwRefW
namespace Go.Proofs.Ytelagneielahhaa
open Go.RowKit Go.ChangeMaps Go.MapKept

theorem RVIs.step {w : World} {r : Nat} {own : C4} {g n c : Nat} {m : VM} (h : RVIs w r own (some ⟨g, 0, none⟩) n c m) {k : Nat} (hk : k < m.length) (id : Int) (j : Nat) (hj : j < 8) (v : Value) (e e' : En) (he : m[k].2 = e) (hs : (ecs [e]).set j v = ecs [e']) :
    RVIs (w.setCell ⟨g, k * 8 + j, none⟩ v) r own (some ⟨g, 0, none⟩) n c (m.set k (id, e')) ∧ Turn [g] w (w.setCell ⟨g, k * 8 + j, none⟩ v) := by
  have hn := h.len
  refine h.cellset (k * 8 + j) (by omega) v ?_
  rw [ecs_set _ k (by simpa using hk) j v e' hj (by simpa [he] using hs)]
  simp [List.map_set]
theorem RVIs.put8 {w : World} {r : Nat} {own : C4} {g n c : Nat} {m : VM} (h : RVIs w r own (some ⟨g, 0, none⟩) n c m) {k : Nat} (hk : k < m.length) (id a b d f : Int) (dn : Bool) (x y z : Int) :
    RVIs ((((((((w.setCell ⟨g, k * 8, none⟩ (.int .i64 a)).setCell ⟨g, k * 8 + 1, none⟩ (.int .i64 b)).setCell ⟨g, k * 8 + 2, none⟩ (.int .i64 d)).setCell ⟨g, k * 8 + 3, none⟩ (.int .i64 f)).setCell ⟨g, k * 8 + 4, none⟩ (.bool dn)).setCell ⟨g, k * 8 + 5, none⟩ (.int .i64 x)).setCell ⟨g, k * 8 + 6, none⟩ (.int .i64 y)).setCell ⟨g, k * 8 + 7, none⟩ (.int .i64 z))
      r own (some ⟨g, 0, none⟩) n c (m.set k (id, ⟨(a, b, d, f), dn, x, y, z⟩)) ∧
    Turn [g] w ((((((((w.setCell ⟨g, k * 8, none⟩ (.int .i64 a)).setCell ⟨g, k * 8 + 1, none⟩ (.int .i64 b)).setCell ⟨g, k * 8 + 2, none⟩ (.int .i64 d)).setCell ⟨g, k * 8 + 3, none⟩ (.int .i64 f)).setCell ⟨g, k * 8 + 4, none⟩ (.bool dn)).setCell ⟨g, k * 8 + 5, none⟩ (.int .i64 x)).setCell ⟨g, k * 8 + 6, none⟩ (.int .i64 y)).setCell ⟨g, k * 8 + 7, none⟩ (.int .i64 z)) := by
  obtain ⟨e, he⟩ : ∃ e, m[k].2 = e := ⟨_, rfl⟩
  obtain ⟨⟨e1, e2, e3, e4⟩, e5, e6, e7, e8⟩ := e
  have S0 := h.step hk id 0 (by omega) (.int .i64 a) _ ⟨(a, e2, e3, e4), e5, e6, e7, e8⟩ he rfl
  have S1 := S0.1.step (k := k) (by simpa using hk) id 1 (by omega) (.int .i64 b) ⟨(a, e2, e3, e4), e5, e6, e7, e8⟩ ⟨(a, b, e3, e4), e5, e6, e7, e8⟩ (by rw [List.getElem_set_self]) rfl
  have S2 := S1.1.step (k := k) (by simpa using hk) id 2 (by omega) (.int .i64 d) ⟨(a, b, e3, e4), e5, e6, e7, e8⟩ ⟨(a, b, d, e4), e5, e6, e7, e8⟩ (by rw [List.getElem_set_self]) rfl
  have S3 := S2.1.step (k := k) (by simpa using hk) id 3 (by omega) (.int .i64 f) ⟨(a, b, d, e4), e5, e6, e7, e8⟩ ⟨(a, b, d, f), e5, e6, e7, e8⟩ (by rw [List.getElem_set_self]) rfl
  have S4 := S3.1.step (k := k) (by simpa using hk) id 4 (by omega) (.bool dn) ⟨(a, b, d, f), e5, e6, e7, e8⟩ ⟨(a, b, d, f), dn, e6, e7, e8⟩ (by rw [List.getElem_set_self]) rfl
  have S5 := S4.1.step (k := k) (by simpa using hk) id 5 (by omega) (.int .i64 x) ⟨(a, b, d, f), dn, e6, e7, e8⟩ ⟨(a, b, d, f), dn, x, e7, e8⟩ (by rw [List.getElem_set_self]) rfl
  have S6 := S5.1.step (k := k) (by simpa using hk) id 6 (by omega) (.int .i64 y) ⟨(a, b, d, f), dn, x, e7, e8⟩ ⟨(a, b, d, f), dn, x, y, e8⟩ (by rw [List.getElem_set_self]) rfl
  have S7 := S6.1.step (k := k) (by simpa using hk) id 7 (by omega) (.int .i64 z) ⟨(a, b, d, f), dn, x, y, e8⟩ ⟨(a, b, d, f), dn, x, y, z⟩ (by rw [List.getElem_set_self]) rfl
  have T := ((((((S0.2.trans S1.2).trans S2.2).trans S3.2).trans S4.2).trans S5.2).trans S6.2).trans S7.2
  have R := S7.1
  simp only [List.set_set, Nat.add_zero] at R T
  exact ⟨R, T⟩
theorem infoRE : (Try.prog.info? 94).map (fun i => (i.zero, i.size, i.bytes)) = some (some (ven en0), 8, 64) := by kernel_rfl
theorem elemRE : ElemT Try.prog 61 94 (ven en0) 8 64 := ⟨Try.underlying61, info_parts infoRE, rfl, by decide⟩
/-- What has been laid out behind k entries. -/
def insL (es : List En) (q : Nat) (e : En) (k : Nat) : List En := if k ≤ q then es.take k else es.take q ++ e :: (es.drop q).take (k - q)
theorem insL_len {es : List En} {q : Nat} {e : En} {k : Nat} (hk : k ≤ es.length) (hq : q ≤ es.length) : (insL es q e k).length = if k ≤ q then k else k + 1 := by
  unfold insL
  split
  · rw [List.length_take]; omega
  · simp; omega
theorem insL_low {es : List En} {q : Nat} {e : En} {k : Nat} (hk : k < q) (hq : q ≤ es.length) : insL es q e (k + 1) = insL es q e k ++ [es[k]'(by omega)] := by
  unfold insL
  rw [if_pos (by omega), if_pos (by omega), List.take_succ_eq_append_getElem (by omega)]
theorem insL_mid {es : List En} {q : Nat} {e : En} (hq : q < es.length) : insL es q e (q + 1) = (insL es q e q ++ [e]) ++ [es[q]] := by
  unfold insL
  have h1 : (es.drop q).take 1 = [es[q]] := by rw [List.drop_eq_getElem_cons hq]; rfl
  rw [if_neg (by omega), if_pos (by omega), show q + 1 - q = 1 by omega, h1]
  simp
theorem insL_high {es : List En} {q : Nat} {e : En} {k : Nat} (hk : q < k) (hl : k < es.length) : insL es q e (k + 1) = insL es q e k ++ [es[k]] := by
  unfold insL
  rw [if_neg (by omega), if_neg (by omega), show k + 1 - q = (k - q) + 1 by omega, List.take_succ_eq_append_getElem (by rw [List.length_drop]; omega)]
  simp [show q + (k - q) = k by omega]
theorem insL_end_low {es : List En} {q : Nat} {e : En} (hq : q = es.length) : insL es q e es.length ++ [e] = es.take q ++ e :: es.drop q := by
  unfold insL
  rw [if_pos (by omega)]
  subst hq
  simp
theorem insL_end {es : List En} {q : Nat} {e : En} (hq : q < es.length) : insL es q e es.length = es.take q ++ e :: es.drop q := by
  unfold insL
  rw [if_neg (by omega), List.take_of_length_le (l := es.drop q) (by simp)]
/-- The list's field is stored. -/
theorem RVIs.newrow {w : World} {r : Nat} {own : C4} {A : Option Addr} {n c : Nat} {m : VM} (h : RVIs w r own A n c m) {base : Nat} (D : Option Addr) (n' c' : Nat) (m' : VM) (oD : w.ownsRow base 94 8 (.slice D n' c') n' (ecs (m'.map (·.2)))) (hb : r < base) :
    RVIs (w.setCell ⟨r, 4, none⟩ (.slice D n' c')) r own D n' c' m' ∧ Turn [r] w (w.setCell ⟨r, 4, none⟩ (.slice D n' c')) := by
  have T : Turn [r] w (w.setCell ⟨r, 4, none⟩ (.slice D n' c')) := (Turn.refl [r] w).setCell (.inl (by simp)) _
  have hl := own_ltA oD
  exact ⟨⟨by simpa using h.blk.set_ 4 (.slice D n' c'), base, hb, own_turnA oD T (fun i hi => by have := hl i hi; simp; omega)⟩, T⟩
def RAdded (w : World) (r : Nat) (own : C4) (A : Option Addr) (m : VM) (c : C4) (tick : Int) (e : Ending) (w' : World) : Prop :=
  ∃ A' n' c', e = .returned (.int .i64 (addR own m c tick).1) ∧ RVIs w' r own A' n' c' (addR own m c tick).2 ∧ (∀ x ∈ blks A', x ∈ blks A ∨ w.heap.size ≤ x) ∧ Turn (r :: blks A) w w'
set_option maxRecDepth 100000 in
set_option maxHeartbeats 4000000 in
theorem rAdd_c {w : World} {r : Nat} {own : C4} {A : Option Addr} {n c : Nat} {m : VM} (h : RVIs w r own A n c m) (hok : VOk m) (hr : Rises m) (hl : n ≤ 16) (c1 c2 c3 c4 tick : Int) :
    Calls Try.prog 27 #[.pointer (some ⟨r, 0, none⟩), .agg #[.int .i64 c1, .int .i64 c2, .int .i64 c3, .int .i64 c4], .int .i64 tick] w (RAdded w r own A m (c1, c2, c3, c4) tick) := by
  have T0 : Turn [] w (w.alloc (.cells #[.int .i64 c1, .int .i64 c2, .int .i64 c3, .int .i64 c4] 30)) := (Turn.refl [] w).alloc _
  have B0 := Blk.new w 30 #[.int .i64 c1, .int .i64 c2, .int .i64 c3, .int .i64 c4]
  have RC := Lib.hid (fun wz => rRight5_c c1 c2 c3 c4 wz)
  have HR := Lib.hid h
  have HN := h.len
  unfold RAdded
  by_cases hright : Right (c1, c2, c3, c4)
  · rw [decide_eq_true hright] at RC
    have HRI := Lib.hid hright
    clear h hright
    go_enter Try.func27, Try.ntmps27
    go_wp2_with fail
    refine (RC.out _).mono ?_
    rintro e w1 ⟨rfl, hT1⟩
    have T1 := T0.trans hT1
    have B1 := hT1.blk B0 (by simp)
    have h1 := HR.out.turn0 T1
    have b0 := B1.cell 0
    have bl := B1.lt
    obtain ⟨o0, -, -, -, s4, rl⟩ := h1.cells
    have HB1 := Lib.hid B1
    have HT1 := Lib.hid T1
    generalize hoid : own.1 = oid at *
    have HOID := Lib.hid hoid
    clear B1 h1 T1 hT1 hoid B0 T0
    go_upto_region 3 with fail
    go_cut [21] (fun x wc => x = .bool (c1 == oid) ∧ Turn [] w1 wc)
    case first =>
      go_quiet (fail)
      go_wp2_with fail
      go_meet
      case rel => exact ⟨rfl, (Turn.refl [] w1).drewN _⟩
    case rest =>
      obtain ⟨rfl, hT2⟩ := hcut
      generalize hwc : wc = w2 at *
      clear hwc b0 bl o0 s4 rl
      have T2 := HT1.out.trans hT2
      have B2 := hT2.blk HB1.out (by simp)
      have b0 := B2.cell 0
      have b1 := B2.cell 1
      have b2 := B2.cell 2
      have b3 := B2.cell 3
      have bl := B2.lt
      have HB2 := Lib.hid B2
      have HT2 := Lib.hid T2
      have FC := rFind_c (HR.out.turn0 T2) hok.key (by omega) c1
      by_cases hown : c1 = oid
      · have RS := Lib.hid (show addR own m (c1, c2, c3, c4) tick = (1, m) by unfold addR; rw [if_neg (fun hh => hh HRI.out), if_pos (hown.trans HOID.out.symm)])
        have g1 : (c1 == oid) = true := by simpa using hown
        clear hown B2 T2 hT2 FC
        go_wp2_with fail
        go_ret
        exact ⟨A, n, c, by rw [RS.out]; simp, by rw [RS.out]; exact HR.out.turn0 HT2.out, fun x hx => .inl hx, HT2.out.mono (by simp)⟩
      · have HO : Hid (¬ (c1, c2, c3, c4).1 = own.1) := fun h => hown (h.trans HOID.out)
        have g1 : (c1 == oid) = false := by simpa using hown
        clear hown B2 hT2
        have h2 := HR.out.turn0 T2
        obtain ⟨-, -, -, -, s4, rl⟩ := h2.cells
        have H2 := Lib.hid h2
        clear h2 T2
        rcases findI_cases m c1 with ⟨hg, hf⟩ | ⟨k, hk, a, hg, hf, hmk⟩
        · rw [hf] at FC
          have HFC := Lib.hid FC
          have HG := Lib.hid hg
          clear FC hf hg
          by_cases h16 : n = 16
          · have RS := Lib.hid (show addR own m (c1, c2, c3, c4) tick = (6, m) by unfold addR; rw [if_neg (fun hh => hh HRI.out), if_neg HO.out]; simp only [HG.out]; rw [if_pos (by omega)])
            have n1 : (16 : Int) ≤ (n : Int) := by omega
            clear h16
            go_wp2_with fail
            refine HFC.out.mono ?_
            rintro e w3 ⟨rfl, rfl⟩
            go_wp2_with fail
            go_ret
            exact ⟨A, n, c, by rw [RS.out]; simp, by rw [RS.out]; exact H2.out, fun x hx => .inl hx, HT2.out.mono (by simp)⟩
          · have RS := Lib.hid (show addR own m (c1, c2, c3, c4) tick = (0, kput m c1 ⟨(c1, c2, c3, c4), false, tick, 0, 0⟩) by unfold addR; rw [if_neg (fun hh => hh HRI.out), if_neg HO.out]; simp only [HG.out]; rw [if_neg (by omega)])
            have n1 : ¬ (16 : Int) ≤ (n : Int) := by omega
            have n2 : n ≤ 15 := by omega
            have hat := atI_le m c1
            have HKP := Lib.hid (kput_new_at hr ⟨(c1, c2, c3, c4), false, tick, 0, 0⟩ HG.out)
            generalize hq : atI m c1 = q at *
            have HQ := Lib.hid hq
            obtain ⟨es, hes⟩ : ∃ es, es = m.map (·.2) := ⟨_, rfl⟩
            have hel : es.length = n := by rw [hes, List.length_map, HN]
            have hqn : q ≤ n := by omega
            have HES := Lib.hid hes
            clear hq hes hat h16
            go_wp2_with fail
            refine HFC.out.mono ?_
            rintro e w3 ⟨rfl, rfl⟩
            go_wp2_with fail
            go_loopw [8, 9, 10] (fun x p ix wr => ∃ k : Nat, k ≤ n ∧ ix = .int .i64 ((k : Nat) : Int) ∧ p = .bool (decide (q < k)) ∧ ∃ D nd cd, x = .slice D nd cd ∧ nd = (if k ≤ q then k else k + 1) ∧ wr.ownsRow w2.heap.size 94 8 (.slice D nd cd) nd (ecs (insL es q ⟨(c1, c2, c3, c4), false, tick, 0, 0⟩ k)) ∧ Turn [] w2 wr) (fun _ _ ix _ => n - (intOf ix).toNat)
            case atStart => exact ⟨0, by omega, rfl, by simp, none, 0, 0, rfl, by simp, by simp [insL, ecs]; exact World.ownsRow_nil _ _ _ _, Turn.refl _ _⟩
            case round =>
              obtain ⟨k, hk, rfl, rfl, D, nd, cd, rfl, hnd, oD, hT3⟩ := hrel
              obtain ⟨wy, rfl⟩ : ∃ wo : World, wo = wr := ⟨_, rfl⟩
              have k0 : (0 : Int) ≤ (k : Int) := Int.natCast_nonneg _
              by_cases hlt : k < n
              · have k1 : (k : Int) < (n : Int) := by omega
                have h3 := H2.out.turn0 hT3
                have B3 := hT3.blk HB2.out (by simp)
                obtain ⟨-, -, -, -, s4, rl⟩ := h3.cells
                have kx : k < m.length := by omega
                obtain ⟨g, rfl, gl, gr, fr, y0, y1, y2, y3, y4, y5, y6, y7⟩ := h3.place kx
                have b0 := B3.cell 0
                have bl := B3.lt
                have hkey := hok.key _ (List.getElem_mem kx)
                rw [hkey] at y0
                have HH3 := Lib.hid h3
                have HB3 := Lib.hid B3
                have HOD := Lib.hid oD
                have HT3 := Lib.hid hT3
                have hcmp : (!decide (q < k) && decide (c1 < m[k].1)) = decide (k = q) := by
                  by_cases h1 : k < q
                  · have h2 := atI_lt (l := m) (id := c1) kx (by rw [HQ.out]; exact h1)
                    have h3 : ¬ c1 < m[k].1 := by omega
                    have h4 : ¬ k = q := by omega
                    simp [h3, h4]
                  · by_cases h2 : k = q
                    · subst h2
                      have h5 := atI_end (l := m) (id := c1) (by rw [HQ.out]; exact kx)
                      simp only [HQ.out] at h5
                      have h6 := kget_none.1 HG.out _ (List.getElem_mem kx)
                      have h7 : c1 < m[k].1 := by omega
                      simp [h7]
                    · have h3 : q < k := by omega
                      simp [h2, h3]
                have HC := Lib.hid hcmp
                clear h3 B3 oD hT3 fr y1 y2 y3 y4 y5 y6 y7 hkey hcmp
                generalize hmk1 : m[k].1 = mk1 at *
                generalize hqk : decide (q < k) = qk at *
                go_wp2_with fail
                go_upto_region 20 with fail
                go_cut [89] (fun x wc => x = .bool (decide (k = q)) ∧ Turn [] wy wc)
                case first =>
                  cases qk with
                  | true =>
                    have h1 := HC.out
                    simp at h1
                    go_quiet (fail)
                    go_wp2_with fail
                    go_meet
                    case rel => exact ⟨by simp [h1], (Turn.refl [] wy).drewN _⟩
                  | false =>
                    have h1 := HC.out
                    go_quiet (fail)
                    go_wp2_with fail
                    go_meet
                    case rel => exact ⟨by rw [← h1]; simp, (Turn.refl [] wy).drewN _⟩
                case rest =>
                  obtain ⟨rfl, hT4⟩ := hcut
                  generalize hwc : wc = w4 at *
                  clear hwc y0 b0 bl s4 rl gl
                  have T4 := HT3.out.trans hT4
                  have B4 := hT4.blk HB3.out (by simp)
                  have b0 := B4.cell 0
                  have b1 := B4.cell 1
                  have b2 := B4.cell 2
                  have b3 := B4.cell 3
                  have bl := B4.lt
                  have O4 := own_turnA HOD.out hT4 (by simp)
                  have HO4 := Lib.hid O4
                  have HT4 := Lib.hid T4
                  have hz4 := T4.size
                  clear B4 O4 T4 hT4
                  by_cases hkq : k = q
                  · obtain rfl : k = q := hkq
                    have g3 : decide (k = k) = true := by simp
                    rw [if_pos (Nat.le_refl _)] at hnd
                    have hnb : nd ≤ 16 := by omega
                    have HND := Lib.hid hnd
                    clear hnd
                    go_upto_region 23 with (at_builtin; refine wpList_append_sl elemRE rfl _ _ rfl D nd cd _ rfl (HO4.out.alloc _) (some ⟨w4.heap.size, 0, none⟩) 1 1 [.int .i64 c1, .int .i64 c2, .int .i64 c3, .int .i64 c4, .bool false, .int .i64 tick, .int .i64 0, .int .i64 0] rfl (Sl.new _ #[.int .i64 c1, .int .i64 c2, .int .i64 c3, .int .i64 c4, .bool false, .int .i64 tick, .int .i64 0, .int .i64 0] _) (by simp) (by simp [Value.oneCell']) (by omega) (by omega) (by simp; omega) ?_; intro D' cd2 w5 own5 hg5 hlie5)
                    have T5 := (HT4.out.alloc (.cells #[.int .i64 c1, .int .i64 c2, .int .i64 c3, .int .i64 c4, .bool false, .int .i64 tick, .int .i64 0, .int .i64 0] 94)).andThen (grown_turn hg5) (fun x hx => .inr (own_ltA HO4.out x hx).2)
                    have h5 := H2.out.turn0 T5
                    have hz5 := T5.size
                    obtain ⟨-, -, -, -, s4, rl⟩ := h5.cells
                    obtain ⟨g', hgg, gl, gr', fr, y0, y1, y2, y3, y4, y5, y6, y7⟩ := h5.place kx
                    cases hgg
                    have hes5 : es[k]'(by omega) = m[k].2 := by
                      have := HES.out
                      subst this
                      simp
                    have hrow : Hid (ecs (insL es k ⟨(c1, c2, c3, c4), false, tick, 0, 0⟩ (k + 1)) = (ecs (insL es k ⟨(c1, c2, c3, c4), false, tick, 0, 0⟩ k) ++ [.int .i64 c1, .int .i64 c2, .int .i64 c3, .int .i64 c4, .bool false, .int .i64 tick, .int .i64 0, .int .i64 0]) ++ ecs [m[k].2]) := by
                      show _ = _
                      rw [insL_mid (by omega), ecs_append, ecs_append, hes5]
                      rfl
                    have HS5 := Lib.hid hes5
                    clear h5 fr gr' hes5
                    generalize hme : m[k].2 = me at *
                    clear hme
                    obtain ⟨⟨x1, x2, x3, x4⟩, dn, hd, sn, ic⟩ := me
                    simp only at y0 y1 y2 y3 y4 y5 y6 y7
                    have HO5 := Lib.hid own5
                    have HT5 := Lib.hid T5
                    have hst : decide (k < k + 1) = true := by simp
                    clear own5 T5 hg5 hlie5
                    go_wp2_with (at_builtin; refine wpList_append_sl elemRE rfl _ _ rfl D' (nd + 1) cd2 _ rfl (HO5.out.alloc _) (some ⟨w5.heap.size, 0, none⟩) 1 1 [.int .i64 x1, .int .i64 x2, .int .i64 x3, .int .i64 x4, .bool dn, .int .i64 hd, .int .i64 sn, .int .i64 ic] rfl (Sl.new _ #[.int .i64 x1, .int .i64 x2, .int .i64 x3, .int .i64 x4, .bool dn, .int .i64 hd, .int .i64 sn, .int .i64 ic] _) (by simp) (by simp [Value.oneCell']) (by omega) (by omega) (by simp; omega) ?_; intro D2 cd3 w6 own6 hg6 hlie6)
                    have T6 := (HT5.out.alloc (.cells #[.int .i64 x1, .int .i64 x2, .int .i64 x3, .int .i64 x4, .bool dn, .int .i64 hd, .int .i64 sn, .int .i64 ic] 94)).andThen (grown_turn hg6) (fun x hx => .inr (own_ltA HO5.out x hx).2)
                    go_roundw
                    case rel => exact ⟨k + 1, by omega, by go_num, by rw [hst], D2, nd + 1 + 1, cd3, rfl, by rw [if_neg (by omega), HND.out], by rw [hrow.out]; exact own6, T6⟩
                    case measure => simp [intOf]; omega
                  · have g3 : decide (k = q) = false := by simpa using hkq
                    go_upto_region 23 with fail
                    have h5 := H2.out.turn0 HT4.out
                    have hz5 := HT4.out.size
                    obtain ⟨-, -, -, -, s4, rl⟩ := h5.cells
                    obtain ⟨g', hgg, gl, gr', fr, y0, y1, y2, y3, y4, y5, y6, y7⟩ := h5.place kx
                    cases hgg
                    have hes5 : es[k]'(by omega) = m[k].2 := by
                      have := HES.out
                      subst this
                      simp
                    have hrow : Hid (ecs (insL es q ⟨(c1, c2, c3, c4), false, tick, 0, 0⟩ (k + 1)) = ecs (insL es q ⟨(c1, c2, c3, c4), false, tick, 0, 0⟩ k) ++ ecs [m[k].2]) := by
                      show _ = _
                      by_cases hkq2 : k < q
                      · rw [insL_low hkq2 (by omega), ecs_append, hes5]
                      · rw [insL_high (by omega) (by omega), ecs_append, hes5]
                    have HS5 := Lib.hid hes5
                    clear h5 fr gr' hes5
                    generalize hme : m[k].2 = me at *
                    clear hme
                    obtain ⟨⟨x1, x2, x3, x4⟩, dn, hd, sn, ic⟩ := me
                    simp only at y0 y1 y2 y3 y4 y5 y6 y7
                    have hnd2 : nd ≤ k + 1 := by
                      rw [hnd]
                      split <;> omega
                    have hnd3 : nd + 1 = if k + 1 ≤ q then k + 1 else k + 1 + 1 := by
                      rw [hnd]
                      split <;> split <;> omega
                    have hst : decide (q < k + 1) = qk := by
                      rw [← hqk]
                      apply decide_eq_decide.2
                      omega
                    have HND3 := Lib.hid hnd3
                    clear hnd hnd3 hkq
                    go_wp2_with (at_builtin; refine wpList_append_sl elemRE rfl _ _ rfl D nd cd _ rfl (HO4.out.alloc _) (some ⟨w4.heap.size, 0, none⟩) 1 1 [.int .i64 x1, .int .i64 x2, .int .i64 x3, .int .i64 x4, .bool dn, .int .i64 hd, .int .i64 sn, .int .i64 ic] rfl (Sl.new _ #[.int .i64 x1, .int .i64 x2, .int .i64 x3, .int .i64 x4, .bool dn, .int .i64 hd, .int .i64 sn, .int .i64 ic] _) (by simp) (by simp [Value.oneCell']) (by omega) (by omega) (by simp; omega) ?_; intro D2 cd3 w6 own6 hg6 hlie6)
                    have T6 := (HT4.out.alloc (.cells #[.int .i64 x1, .int .i64 x2, .int .i64 x3, .int .i64 x4, .bool dn, .int .i64 hd, .int .i64 sn, .int .i64 ic] 94)).andThen (grown_turn hg6) (fun x hx => .inr (own_ltA HO4.out x hx).2)
                    go_roundw
                    case rel => exact ⟨k + 1, by omega, by go_num, by rw [hst], D2, nd + 1, cd3, rfl, HND3.out, by rw [hrow.out]; exact own6, T6⟩
                    case measure => simp [intOf]; omega
              · obtain rfl : k = n := by omega
                have k1 : ¬ (k : Int) < (k : Int) := by omega
                have h3 := H2.out.turn0 hT3
                have B3 := hT3.blk HB2.out (by simp)
                have hz3 := hT3.size
                obtain ⟨-, -, -, -, s4, rl3⟩ := h3.cells
                have b0 := B3.cell 0
                have b1 := B3.cell 1
                have b2 := B3.cell 2
                have b3 := B3.cell 3
                have bl := B3.lt
                have HOD := Lib.hid oD
                have HT3 := Lib.hid hT3
                have H3 := Lib.hid h3
                have hmm : Hid (m.map (·.2) = es) := HES.out.symm
                by_cases hqk : q = k
                · obtain rfl : q = k := hqk
                  have g3 : decide (q < q) = false := by simp
                  rw [if_pos (Nat.le_refl _)] at hnd
                  have hnb : nd ≤ 16 := by omega
                  have HND := Lib.hid hnd
                  clear hnd
                  have hrow : Hid (ecs ((kput m c1 ⟨(c1, c2, c3, c4), false, tick, 0, 0⟩).map (·.2)) = ecs (insL es q ⟨(c1, c2, c3, c4), false, tick, 0, 0⟩ q) ++ [.int .i64 c1, .int .i64 c2, .int .i64 c3, .int .i64 c4, .bool false, .int .i64 tick, .int .i64 0, .int .i64 0]) := by
                    show _ = _
                    have h1 := insL_end_low (es := es) (q := q) (e := ⟨(c1, c2, c3, c4), false, tick, 0, 0⟩) hel.symm
                    rw [hel] at h1
                    rw [HKP.out, List.map_append, List.map_cons, List.map_take, List.map_drop, hmm.out, ← h1, ecs_append]
                    rfl
                  clear oD hT3 h3 B3
                  go_upto_region 26 with (at_builtin; refine wpList_append_sl elemRE rfl _ _ rfl D nd cd _ rfl (HOD.out.alloc _) (some ⟨wy.heap.size, 0, none⟩) 1 1 [.int .i64 c1, .int .i64 c2, .int .i64 c3, .int .i64 c4, .bool false, .int .i64 tick, .int .i64 0, .int .i64 0] rfl (Sl.new _ #[.int .i64 c1, .int .i64 c2, .int .i64 c3, .int .i64 c4, .bool false, .int .i64 tick, .int .i64 0, .int .i64 0] _) (by simp) (by simp [Value.oneCell']) (by omega) (by omega) (by simp; omega) ?_; intro D' cd2 w5 own5 hg5 hlie5)
                  have T5 := (HT3.out.alloc (.cells #[.int .i64 c1, .int .i64 c2, .int .i64 c3, .int .i64 c4, .bool false, .int .i64 tick, .int .i64 0, .int .i64 0] 94)).andThen (grown_turn hg5) (fun x hx => .inr (own_ltA HOD.out x hx).2)
                  have h5 := H2.out.turn0 T5
                  have f4 := h5.blk.frozen 4
                  obtain ⟨-, -, -, -, s5, rl5⟩ := h5.cells
                  rw [← hrow.out] at own5
                  have hlt5 := own_ltA own5
                  have NR := Lib.hid (h5.newrow D' (nd + 1) cd2 _ own5 rl)
                  have HT5 := Lib.hid (HT2.out.trans T5)
                  have hz2 := HT2.out.size
                  clear own5 h5 T5 hg5 hlie5 s4 b0 b1 b2 b3
                  go_wp2_with fail
                  go_ret
                  exact ⟨by rw [RS.out]; simp, D', ⟨nd + 1, cd2, by rw [RS.out]; exact NR.out.1⟩, fun x hx => .inr (by have := (hlt5 x hx).2; omega), ((HT5.out.mono (by simp)).trans (NR.out.2.mono (by simp)))⟩
                · have hqk2 : q < k := by omega
                  have g3 : decide (q < k) = true := by simpa using hqk2
                  rw [if_neg (by omega)] at hnd
                  have HND := Lib.hid hnd
                  clear hnd
                  have hrow : Hid (ecs ((kput m c1 ⟨(c1, c2, c3, c4), false, tick, 0, 0⟩).map (·.2)) = ecs (insL es q ⟨(c1, c2, c3, c4), false, tick, 0, 0⟩ k)) := by
                    show _ = _
                    have h1 := insL_end (es := es) (q := q) (e := ⟨(c1, c2, c3, c4), false, tick, 0, 0⟩) (by omega)
                    rw [hel] at h1
                    rw [HKP.out, List.map_append, List.map_cons, List.map_take, List.map_drop, hmm.out, ← h1]
                  rw [← hrow.out] at oD
                  have f4 := h3.blk.frozen 4
                  have hlt5 := own_ltA oD
                  have NR := Lib.hid (h3.newrow D nd cd _ oD rl)
                  have HT5 := Lib.hid (HT2.out.trans hT3)
                  have hz2 := HT2.out.size
                  clear oD hT3 h3 B3 b0 b1 b2 b3 hqk
                  go_wp2_with fail
                  go_ret
                  exact ⟨by rw [RS.out]; simp, D, ⟨nd, cd, by rw [RS.out]; exact NR.out.1⟩, fun x hx => .inr (by have := (hlt5 x hx).2; omega), ((HT5.out.mono (by simp)).trans (NR.out.2.mono (by simp)))⟩
        · rw [hf] at FC
          have HFC := Lib.hid FC
          have HG := Lib.hid hg
          have i0 : (0 : Int) ≤ (k : Int) := Int.natCast_nonneg _
          have i1 : (k : Int) < (n : Int) := by omega
          obtain ⟨g, rfl, gl, gr, fr, y0, y1, y2, y3, y4, y5, y6, y7⟩ := H2.out.place hk
          rw [hmk] at y0 y1 y2 y3
          obtain ⟨⟨x1, x2, x3, x4⟩, dn, hd, sn, ic⟩ := a
          simp only at y0 y1 y2 y3
          have HMK := Lib.hid hmk
          clear FC hf hg fr y4 y5 y6 y7 hmk
          rcases c4_cases x1 x2 x3 x4 c1 c2 c3 c4 with ⟨rfl, rfl, rfl, rfl⟩ | ⟨hne, hc⟩
          · have RS := Lib.hid (show addR own m (x1, x2, x3, x4) tick = (8, m) by unfold addR; rw [if_neg (fun hh => hh HRI.out), if_neg HO.out]; simp only [HG.out]; simp)
            go_wp2_with fail
            refine HFC.out.mono ?_
            rintro e w3 ⟨rfl, rfl⟩
            go_upto_region 7 with fail
            go_cut [37] (fun x wc => x = .bool true ∧ Turn [] w2 wc)
            case first =>
              go_quiet (fail)
              go_wp2_with fail
              go_meet
              case rel => exact ⟨rfl, (Turn.refl [] w2).drewN _⟩
            case rest =>
              obtain ⟨rfl, hT3⟩ := hcut
              generalize hwc : wc = w4 at *
              clear hwc
              have T3 := HT2.out.trans hT3
              go_wp2_with fail
              go_ret
              exact ⟨_, n, c, by rw [RS.out]; simp, by rw [RS.out]; exact H2.out.turn0 hT3, fun x hx => .inl hx, T3.mono (by simp)⟩
          · have HNE := Lib.hid hne
            clear hne
            go_wp2_with fail
            refine HFC.out.mono ?_
            rintro e w3 ⟨rfl, rfl⟩
            go_upto_region 7 with fail
            go_cut [37] (fun x wc => x = .bool false ∧ Turn [] w2 wc)
            case first =>
              rcases hc with h1 | ⟨rfl, h1⟩ | ⟨rfl, rfl, h1⟩ | ⟨rfl, rfl, rfl, h1⟩
              all_goals
                go_quiet (fail)
                go_wp2_with fail
                go_meet
                case rel => exact ⟨rfl, (Turn.refl [] w2).drewN _⟩
            case rest =>
              obtain ⟨rfl, hT3⟩ := hcut
              generalize hwc : wc = w4 at *
              clear hwc hc y0 y1 y2 y3 b0 b1 b2 b3 bl s4 rl gl
              have T3 := HT2.out.trans hT3
              have B3 := hT3.blk HB2.out (by simp)
              have h3 := H2.out.turn0 hT3
              obtain ⟨-, -, -, -, s4, rl⟩ := h3.cells
              obtain ⟨g', hgg, gl, gr', fr, y0, y1, y2, y3, y4, y5, y6, y7⟩ := h3.place hk
              cases hgg
              rw [HMK.out] at y0 y1 y2 y3 y4 y5 y6 y7
              simp only at y0 y1 y2 y3 y4 y5 y6 y7
              have b0 := B3.cell 0
              have b1 := B3.cell 1
              have b2 := B3.cell 2
              have b3 := B3.cell 3
              have bl := B3.lt
              have H3 := Lib.hid h3
              have HT3 := Lib.hid T3
              have HB3 := Lib.hid B3
              have FR := Lib.hid fr
              clear h3 T3 hT3 B3 fr
              by_cases hs : c4 ≤ x4
              · have RS := Lib.hid (show addR own m (c1, c2, c3, c4) tick = (9, m) by unfold addR; rw [if_neg (fun hh => hh HRI.out), if_neg HO.out]; simp only [HG.out]; rw [if_neg HNE.out, if_pos hs])
                go_wp2_with fail
                go_quiet (fail)
                go_wp2_with fail
                go_ret
                exact ⟨_, n, c, by rw [RS.out]; simp, by rw [RS.out]; exact H3.out.turn0 ((Turn.refl [] _).drewN _), fun x hx => .inl hx, (HT3.out.drewN _).mono (by simp)⟩
              · have RS := Lib.hid (show addR own m (c1, c2, c3, c4) tick = (0, kput m c1 ⟨(c1, c2, c3, c4), false, tick, 0, 0⟩) by unfold addR; rw [if_neg (fun hh => hh HRI.out), if_neg HO.out]; simp only [HG.out]; rw [if_neg HNE.out, if_neg hs])
                have g2 : decide (c4 ≤ x4) = false := by simpa using hs
                go_upto_region 9 with fail
                go_cut [49] (fun x wc => x = .bool false ∧ Turn [] w4 wc)
                case first =>
                  go_quiet (fail)
                  go_wp2_with fail
                  go_meet
                  case rel => exact ⟨by simp [g2], (Turn.refl [] w4).drewN _⟩
                case rest =>
                  obtain ⟨rfl, hT5⟩ := hcut
                  generalize hwc : wc = w5 at *
                  clear hwc y0 y1 y2 y3 y4 y5 y6 y7 b0 b1 b2 b3 bl s4 rl gl
                  have T5 := HT3.out.trans hT5
                  have B5 := hT5.blk HB3.out (by simp)
                  have h5 := H3.out.turn0 hT5
                  obtain ⟨-, -, -, -, s4, rl⟩ := h5.cells
                  obtain ⟨g', hgg, gl, gr', fr, y0, y1, y2, y3, y4, y5, y6, y7⟩ := h5.place hk
                  cases hgg
                  rw [HMK.out] at y0 y1 y2 y3 y4 y5 y6 y7
                  simp only at y0 y1 y2 y3 y4 y5 y6 y7
                  have b0 := B5.cell 0
                  have b1 := B5.cell 1
                  have b2 := B5.cell 2
                  have b3 := B5.cell 3
                  have bl := B5.lt
                  have H5 := Lib.hid h5
                  have HT5 := Lib.hid T5
                  clear h5 T5 hT5 B5
                  have f0 := fr (k * 8)
                  have f1 := fr (k * 8 + 1)
                  have f2 := fr (k * 8 + 2)
                  have f3 := fr (k * 8 + 3)
                  have f4 := fr (k * 8 + 4)
                  have f5 := fr (k * 8 + 5)
                  have f6 := fr (k * 8 + 6)
                  have f7 := fr (k * 8 + 7)
                  clear fr
                  have P8 := H5.out.put8 hk c1 c1 c2 c3 c4 false tick 0 0
                  rw [← kput_old_at hr hk (show m[k].1 = c1 by rw [HMK.out])] at P8
                  have HP8 := Lib.hid P8
                  clear P8
                  go_wp2_with fail
                  go_region_law (fail)
                  all_goals
                    go_wp2_with fail
                    go_ret
                    exact ⟨_, n, c, by rw [RS.out]; simp, by rw [RS.out]; exact HP8.out.1.turn0 ((Turn.refl [] _).drew), fun x hx => .inl hx, ((HT5.out.mono (by simp)).trans (HP8.out.2.drew)).mono (by simp [blks])⟩
  · rw [decide_eq_false hright] at RC
    have RS := Lib.hid (show addR own m (c1, c2, c3, c4) tick = (10, m) by unfold addR; rw [if_pos hright])
    clear h hright
    go_enter Try.func27, Try.ntmps27
    go_wp2_with fail
    refine (RC.out _).mono ?_
    rintro e w1 ⟨rfl, hT1⟩
    have T1 := T0.trans hT1
    go_wp2_with fail
    go_ret
    exact ⟨A, n, c, by rw [RS.out]; simp, by rw [RS.out]; exact HR.out.turn0 T1, fun x hx => .inl hx, T1.mono (by simp)⟩
end Go.Proofs.Ytelagneielahhaa
