/- The contract of the document's Offer. -/
import Derived.Test.YtpdencmgjihnfaaHRef2
import Derived.Deep.RegionLaw
namespace Go.Proofs.Ytpdencmgjihnfaa
open Go.RowKit Go.ChangeMaps

theorem Blk.turn0 {w w' : World} {g : Nat} {t : TypeId} {cs : Array Value} (h : Blk w g t cs) (hT : Turn [] w w') : Blk w' g t cs := hT.blk h (by simp)
/-- Offer's answer. -/
def refE (own : C4) (wl : List C4) (T : TL) (times s t : Int) (c : C4) : Int :=
  if ¬ Right c then 10 else if c.1 = own.1 ∨ c.1 = s then 1 else if c.2.2.1 ≤ t then 9 else if wl.any (fun x => x.1 == c.1) then 8 else if 16 ≤ wl.length then 6 else tryL T s t times (cntL T)

/-- Behind Offer. -/
def Offered (w : World) (g : Nat) (own : C4) (times : Int) (A : Option Addr) (n cap : Nat) (wl : List C4) (L : Option Addr) (nl cl : Nat) (T : TL) (s t : Int) (c : C4) (e : Ending) (w' : World) : Prop :=
  e = .returned (.int .i64 (refE own wl T times s t c)) ∧ ((refE own wl T times s t c ≠ 0 ∧ RefIs w' g own times A n cap wl L nl cl T ∧ Turn [] w w') ∨
    (refE own wl T times s t c = 0 ∧ ∃ A' cap' L' cl', RefIs w' g own times A' (n + 1) cap' (wl ++ [c]) L' (nl + 1) cl' (T ++ [(s, t / 32)]) ∧ (∀ i ∈ blks A', w.heap.size ≤ i ∧ i < w'.heap.size) ∧ (∀ i ∈ blks L', w.heap.size ≤ i ∧ i < w'.heap.size) ∧ Turn [g] w w'))
theorem Offered.no {w : World} {g : Nat} {own : C4} {times : Int} {A : Option Addr} {n cap : Nat} {wl : List C4} {L : Option Addr} {nl cl : Nat} {T : TL} {s t : Int} {c : C4} {e : Ending} {w' : World} {v : Int} (R : RefIs w g own times A n cap wl L nl cl T) (hv : refE own wl T times s t c = v) (h0 : v ≠ 0) (he : e = .returned (.int .i64 v)) (hT : Turn [] w w') :
    Offered w g own times A n cap wl L nl cl T s t c e w' :=
  ⟨by rw [hv]; exact he, .inl ⟨by rw [hv]; exact h0, R.turn hT (by simp) (by simp) (by simp), hT⟩⟩

theorem tcs_one : ∀ l : TL, ∀ u ∈ tcs l, u.oneCell' = true
  | [] => by simp [tcs]
  | c :: r => by
    intro u hu
    simp only [tcs, List.mem_cons] at hu
    rcases hu with rfl | rfl | hu
    · rfl
    · rfl
    · exact tcs_one r u hu
set_option maxRecDepth 100000 in
set_option maxHeartbeats 4000000 in
theorem refOffer_c (g : Nat) (own : C4) (times : Int) (A : Option Addr) (n cap : Nat) (wl : List C4) (L : Option Addr) (nl cl : Nat) (T : TL) (s t x1 x2 x3 x4 : Int) (w : World) (R : RefIs w g own times A n cap wl L nl cl T) (hn : n ≤ 16) (hnl : nl ≤ 100000) (ht : t ≤ 9223372036854775807) :
    Calls Try.prog 13 #[.pointer (some ⟨g, 0, none⟩), .int .i64 s, .int .i64 t, .agg #[.int .i64 x1, .int .i64 x2, .int .i64 x3, .int .i64 x4]] w (Offered w g own times A n cap wl L nl cl T s t (x1, x2, x3, x4)) := by
  obtain ⟨o1, o2, o3, o4⟩ := own
  have HN := Lib.hid R.wn
  have HLN := Lib.hid R.ln
  have HR := Lib.hid R
  clear R
  have TX := (Turn.refl [] w).alloc (.cells #[.int .i64 x1, .int .i64 x2, .int .i64 x3, .int .i64 x4] 37)
  have BX := Blk.new w 37 #[.int .i64 x1, .int .i64 x2, .int .i64 x3, .int .i64 x4]
  by_cases hr : Right (x1, x2, x3, x4)
  · have hv : Hid (refE (o1, o2, o3, o4) wl T times s t (x1, x2, x3, x4) = if x1 = o1 ∨ x1 = s then 1 else if x3 ≤ t then 9 else if wl.any (fun x => x.1 == x1) then 8 else if 16 ≤ wl.length then 6 else tryL T s t times (cntL T)) := by
      show refE _ _ _ _ _ _ _ = _
      unfold refE
      rw [if_neg (by simpa using hr)]
    have RR := Lib.hid (rightR_c x1 x2 x3 x4)
    have hrd : Hid (decide (Right (x1, x2, x3, x4)) = true) := by show _ = _; simpa using hr
    clear hr
    go_enter Try.func13, Try.ntmps13
    go_wp2_with fail
    refine (RR.out _).mono ?_
    rw [hrd.out]
    rintro e w1 ⟨rfl, hT1⟩
    have T1 := TX.trans hT1
    obtain ⟨a0, a4, a5, a6, al⟩ := (HR.out.turn T1 (by simp) (by simp) (by simp)).cells
    have B1 := hT1.blk BX (by simp)
    obtain ⟨k0, k1, k2, k3, kl⟩ : w1.cell? ⟨w.heap.size, 0, none⟩ = some (.int .i64 x1) ∧ w1.cell? ⟨w.heap.size, 1, none⟩ = some (.int .i64 x2) ∧ w1.cell? ⟨w.heap.size, 2, none⟩ = some (.int .i64 x3) ∧ w1.cell? ⟨w.heap.size, 3, none⟩ = some (.int .i64 x4) ∧ w.heap.size < w1.heap.size := ⟨B1.cell 0, B1.cell 1, B1.cell 2, B1.cell 3, B1.lt⟩
    by_cases a1 : x1 = o1
    · have hv1 : Hid (refE (o1, o2, o3, o4) wl T times s t (x1, x2, x3, x4) = 1) := by show _ = _; rw [hv.out, if_pos (.inl a1)]
      have a1' : (x1 == o1) = true := by simpa using a1
      clear a1
      go_wp2_with fail
      go_quiet (fail)
      go_wp2_with fail
      go_ret
      exact Offered.no HR.out hv1.out (by decide) (by simp) (T1.drewN _)
    have a1' : (x1 == o1) = false := by simpa using a1
    by_cases a2 : x1 = s
    · have hv1 : Hid (refE (o1, o2, o3, o4) wl T times s t (x1, x2, x3, x4) = 1) := by show _ = _; rw [hv.out, if_pos (.inr a2)]
      have a2' : (x1 == s) = true := by simpa using a2
      clear a1 a2
      go_wp2_with fail
      go_quiet (fail)
      go_wp2_with fail
      go_ret
      exact Offered.no HR.out hv1.out (by decide) (by simp) (T1.drewN _)
    have a2' : (x1 == s) = false := by simpa using a2
    have hv2 : Hid (refE (o1, o2, o3, o4) wl T times s t (x1, x2, x3, x4) = if x3 ≤ t then 9 else if wl.any (fun x => x.1 == x1) then 8 else if 16 ≤ wl.length then 6 else tryL T s t times (cntL T)) := by
      show _ = _
      rw [hv.out, if_neg (fun h => h.elim (fun h => a1 h) a2)]
    clear a1 a2 hv
    by_cases a3 : x3 ≤ t
    · have hv1 : Hid (refE (o1, o2, o3, o4) wl T times s t (x1, x2, x3, x4) = 9) := by show _ = _; rw [hv2.out, if_pos a3]
      go_wp2_with fail
      go_quiet (fail)
      go_wp2_with fail
      go_ret
      exact Offered.no HR.out hv1.out (by decide) (by simp) (T1.drewN _)
    have hv3 : Hid (refE (o1, o2, o3, o4) wl T times s t (x1, x2, x3, x4) = if wl.any (fun x => x.1 == x1) then 8 else if 16 ≤ wl.length then 6 else tryL T s t times (cntL T)) := by
      show _ = _
      rw [hv2.out, if_neg a3]
    clear hv2
    go_wp2_with fail
    go_quiet (fail)
    go_wp2_with fail
    have T2 := T1.drewN nq
    have BX2 := Blk.turn0 B1 ((Turn.refl [] w1).drewN nq)
    clear a0 a4 a5 a6 al k0 k1 k2 k3 kl a1' a2'
    generalize w1.drewN nq = w2 at *
    go_loopw [9] (fun i wr => ∃ k : Nat, k ≤ n ∧ i = .int .i64 k ∧ Hid (∀ j, (hj : j < k) → (hl : j < wl.length) → (wl[j].1 == x1) = false) ∧ Turn [] w2 wr) (fun i _ => n - (intOf i).toNat)
    case atStart => exact ⟨0, Nat.zero_le _, rfl, Lib.hid (fun j hj => absurd hj (by omega)), Turn.refl _ _⟩
    case round =>
      obtain ⟨k, hk, rfl, ht', hT⟩ := hrel
      have i0 : (0 : Int) ≤ (k : Int) := Int.natCast_nonneg _
      have T3 := T2.trans hT
      have R3 := Lib.hid (HR.out.turn T3 (by simp) (by simp) (by simp))
      obtain ⟨a0, a4, a5, a6, al⟩ := R3.out.cells
      have B3 := hT.blk BX2 (by simp)
      have k0 := B3.cell 0
      have kl := B3.lt
      by_cases hlt : k < n
      · have kx : k < wl.length := by rw [HN.out]; exact hlt
        have i1 : (k : Int) < (n : Int) := by omega
        obtain ⟨b1, o1', rfl, l1, c0, -⟩ := ccs_at R3.out.ws kx
        cases hp : (wl[k].1 == x1) with
        | true =>
          have hv1 : Hid (refE (o1, o2, o3, o4) wl T times s t (x1, x2, x3, x4) = 8) := by
            show _ = _
            rw [hv3.out, if_pos (List.any_eq_true.2 ⟨wl[k], List.getElem_mem kx, hp⟩)]
          have he : wl[k].1 = x1 := by simpa using hp
          rw [he] at c0
          clear hp he
          go_wp2_with fail
          go_quiet (fail)
          go_wp2_with fail
          go_ret
          exact Offered.no HR.out hv1.out (by decide) (by simp) (T3.drewN _)
        | false =>
          have hnx : Hid (∀ j, (hj : j < k + 1) → (hl : j < wl.length) → (wl[j].1 == x1) = false) := fun j hj hl => by
            by_cases h : j = k
            · subst h; exact hp
            · exact ht'.out j (by omega) hl
          generalize wl[k].1 = y1 at *
          go_wp2_with fail
          go_quiet (fail)
          go_wp2_with fail
          go_roundw
          case rel => exact ⟨k + 1, by omega, by go_num, hnx, hT.drewN _⟩
          case measure => simp [intOf]; omega
      · obtain rfl : k = n := by omega
        have i1 : ¬ (k : Int) < (k : Int) := by omega
        have hv4 : Hid (refE (o1, o2, o3, o4) wl T times s t (x1, x2, x3, x4) = if 16 ≤ wl.length then 6 else tryL T s t times (cntL T)) := by
          show _ = _
          rw [hv3.out, if_neg]
          rw [Bool.not_eq_true, List.any_eq_false]
          intro x hx
          obtain ⟨j, hj, rfl⟩ := List.getElem_of_mem hx
          rw [ht'.out j (by rw [← HN.out]; exact hj) hj]
          simp
        clear hv3 ht'
        by_cases a5' : 16 ≤ k
        · have hv1 : Hid (refE (o1, o2, o3, o4) wl T times s t (x1, x2, x3, x4) = 6) := by show _ = _; rw [hv4.out, if_pos (by rw [HN.out]; exact a5')]
          have a6' : (16 : Int) ≤ (k : Int) := by omega
          go_wp2_with fail
          go_ret
          exact Offered.no HR.out hv1.out (by decide) (by simp) T3
        · have hv1 : Hid (refE (o1, o2, o3, o4) wl T times s t (x1, x2, x3, x4) = tryL T s t times (cntL T)) := by show _ = _; rw [hv4.out, if_neg (by rw [HN.out]; exact a5')]
          have a6' : ¬ (16 : Int) ≤ (k : Int) := by omega
          have hle := Nat.le_trans (cntL_le T) (show T.length ≤ 100000 by rw [HLN.out]; exact hnl)
          have SN := Lib.hid (fun (wz : World) (hz : Turn [] wr wz) => senders_c L nl cl T wz (R3.out.ls.turn0 hz) HLN.out (by omega))
          have TR := Lib.hid (fun (wz : World) (hz : Turn [] wr wz) => try_c L nl cl T s t times (cntL T) wz (R3.out.ls.turn0 hz) HLN.out (by omega) ht (by omega))
          have T0 := (Turn.refl [] wr).drew
          have A1 : ∀ wz, Turn [] wr wz → (wz.cell? ⟨g, 4, none⟩ = some (.int .i64 times) ∧ wz.cell? ⟨g, 6, none⟩ = some (.slice L nl cl) ∧ Turn [] wr wz) := fun wz hz =>
            ⟨(hz.cell al (by simp)).trans a4, (hz.cell al (by simp)).trans a6, hz⟩
          have hv5 : Hid (tryL T s t times (cntL T) = 0 → 0 ≤ t) := fun h => by
            by_cases h2 : lookL T s t = 0
            · unfold lookL at h2
              split at h2
              · simp at h2
              · omega
            · unfold tryL at h
              rw [if_pos h2] at h
              exact absurd h h2
          generalize tryL T s t times (cntL T) = ev at *
          generalize cntL T = q at *
          clear hv4
          go_wp2_with fail
          go_region_held3 (fun w' => w'.cell? ⟨g, 4, none⟩ = some (.int .i64 times) ∧ w'.cell? ⟨g, 6, none⟩ = some (.slice L nl cl) ∧ Turn [] wr w') (first | exact A1 _ (by assumption))
            (first
              | (go_at_call 30; refine (SN.out _ (by assumption)).mono ?_; rintro e w5 ⟨rfl, hT5⟩; have hT5' : Turn [] wr w5 := Turn.trans T0 hT5)
              | (go_at_call 29; refine (TR.out _ (by assumption)).mono ?_; rintro e w6 ⟨rfl, hT6⟩; have hT6' : Turn [] wr w6 := Turn.trans hT5' hT6))
          clear A1 T0
          have T6 := T3.trans hT6'
          have R6 := Lib.hid (HR.out.turn T6 (by simp) (by simp) (by simp))
          have B6 := hT6'.blk B3 (by simp)
          by_cases e0 : ev = 0
          · subst e0
            have t0 := hv5.out rfl
            clear a0 a4 a5 a6 al k0 kl
            obtain ⟨a0, a4, a5, a6, al⟩ := R6.out.cells
            obtain ⟨k0, k1, k2, k3, kl⟩ : w6.cell? ⟨w.heap.size, 0, none⟩ = some (.int .i64 x1) ∧ w6.cell? ⟨w.heap.size, 1, none⟩ = some (.int .i64 x2) ∧ w6.cell? ⟨w.heap.size, 2, none⟩ = some (.int .i64 x3) ∧ w6.cell? ⟨w.heap.size, 3, none⟩ = some (.int .i64 x4) ∧ w.heap.size < w6.heap.size := ⟨B6.cell 0, B6.cell 1, B6.cell 2, B6.cell 3, B6.lt⟩
            have f5 := R6.out.blk.frozen 5
            have f6 := R6.out.blk.frozen 6
            have td : t.tdiv 32 = t / 32 := Int.tdiv_eq_ediv_of_nonneg t0
            have h0 := Lib.hid (World.ownsRow_lit (base := w6.heap.size) (e := 41) (size := 2) w6 #[] 0 (Nat.le_refl _) (by simp) rfl)
            have hxl : Hid ((tcs T).length = nl * 2) := by show _ = _; rw [tcs_len, HLN.out]
            have hone := Lib.hid (tcs_one T)
            go_wp2_with (first
              | (at_builtin; refine wpList_append_sl elemT rfl _ _ rfl _ 0 _ [] rfl h0.out _ nl cl (tcs T) rfl (R6.out.ls.alloc _) hxl.out hone.out (by omega) (by omega) (by simp) ?_; intro D1 cd1 w7 own7 hg7 hlie7; rw [Nat.zero_add, List.nil_append] at own7;
                 have T7 : Turn [] w6 w7 := ((Turn.refl [] w6).alloc _).andThen (Turn.of_grown (S := [w6.heap.size]) hg7 (by simp)) (by simp);
                 have OWN7 := Lib.hid own7; have z7 := T7.size; clear own7)
              | (at_builtin; refine wpList_append_sl elemT rfl _ _ rfl D1 nl cd1 (tcs T) rfl (OWN7.out.alloc _) (some ⟨w7.heap.size, 0, none⟩) 1 1 [.int .i64 s, .int .i64 (t / 32)] rfl (Sl.new _ #[.int .i64 s, .int .i64 (t / 32)] _) (by simp) (by simp [Value.oneCell']) (by omega) (by omega) (by simp; omega) ?_; intro D2 cd2 w8 own8 hg8 hlie8;
                 have T8 : Turn [] w6 w8 := (T7.alloc (.cells #[.int .i64 s, .int .i64 (t / 32)] 41)).andThen (grown_turn hg8) (fun i hi => .inr ((own_ltA OWN7.out i hi).2));
                 have OWN8 := Lib.hid own8; have z8 := T8.size; have f68 := (T8.blk R6.out.blk (by simp)).frozen 6; have c68 := (T8.blk R6.out.blk (by simp)).cell 6; clear own8))
            clear h0 a0 a4 a5 a6 k0 k1 k2 k3 f5 f6 f68 c68
            have hD2 := own_ltA OWN8.out
            have hg6 : g < w6.heap.size := R6.out.blk.lt
            have hgD2 : g ∉ blks D2 := fun hm => by have := (hD2 g hm).2; omega
            have Tg : Turn [g] w8 (w8.setCell ⟨g, 6, none⟩ (.slice D2 (nl + 1) cd2)) := (Turn.refl [g] w8).setCell (.inl (by simp)) _
            have Bg : Blk (w8.setCell ⟨g, 6, none⟩ (.slice D2 (nl + 1) cd2)) g 48 #[.int .i64 o1, .int .i64 o2, .int .i64 o3, .int .i64 o4, .int .i64 times, .slice A k cap, .slice D2 (nl + 1) cd2] := by
              have := (T8.blk R6.out.blk (by simp)).set_ 6 (.slice D2 (nl + 1) cd2)
              simpa using this
            have ngb : g ≠ w.heap.size := fun h => by have := HR.out.blk.lt; omega
            have B9 := Tg.blk (T8.blk B6 (by simp)) (show w.heap.size ∉ [g] by simp; omega)
            have sA9 : Sl (w8.setCell ⟨g, 6, none⟩ (.slice D2 (nl + 1) cd2)) A (ccs wl) := (R6.out.ws.turn0 T8).turn Tg (off_blks (fun i hi hm => R6.out.offA (by simp at hm; rw [← hm]; exact hi)))
            have own9 := own_turnA OWN8.out Tg (fun i hi hm => hgD2 (by simp at hm; rw [← hm]; exact hi))
            have z9 := Tg.size
            have T69 : Turn [g] w6 (w8.setCell ⟨g, 6, none⟩ (.slice D2 (nl + 1) cd2)) := (T8.mono (by simp)).trans Tg
            clear Tg
            generalize w8.setCell ⟨g, 6, none⟩ (.slice D2 (nl + 1) cd2) = w9 at *
            have HO9 := Lib.hid own9
            have SA9 := Lib.hid sA9
            clear own9 sA9
            have g5 := Bg.cell 5
            have b0 := B9.cell 0
            have b1 := B9.cell 1
            have b2 := B9.cell 2
            have b3 := B9.cell 3
            have gl := Bg.lt
            have bl := B9.lt
            have A1 : ∀ wz, Turn [] w9 wz → (wz.cell? ⟨g, 5, none⟩ = some (.slice A k cap) ∧ wz.cell? ⟨w.heap.size, 0, none⟩ = some (.int .i64 x1) ∧ wz.cell? ⟨w.heap.size, 1, none⟩ = some (.int .i64 x2) ∧ wz.cell? ⟨w.heap.size, 2, none⟩ = some (.int .i64 x3) ∧ wz.cell? ⟨w.heap.size, 3, none⟩ = some (.int .i64 x4) ∧ Turn [] w9 wz) := fun wz hz =>
              ⟨(hz.cell gl (by simp)).trans g5, (hz.cell bl (by simp)).trans b0, (hz.cell bl (by simp)).trans b1, (hz.cell bl (by simp)).trans b2, (hz.cell bl (by simp)).trans b3, hz⟩
            have T0 := (Turn.refl [] w9).drew
            have E1 := Lib.hid (World.ownsRow_lit (base := w9.heap.size) (e := 37) (size := 4) w9.drew #[] 0 (Nat.le_refl _) (by simp) rfl)
            have E3 : Hid (World.ownsRow ((w9.drew.alloc (.cells #[.int .i64 x1, .int .i64 x2, .int .i64 x3, .int .i64 x4] 37)).alloc (.cells #[] 37)) w9.heap.size 37 4 (.slice (some ⟨w9.heap.size + 1, 0, none⟩) 0 0) 0 []) := by
              have := World.ownsRow_lit (base := w9.heap.size) (e := 37) (size := 4) (w9.drew.alloc (.cells #[.int .i64 x1, .int .i64 x2, .int .i64 x3, .int .i64 x4] 37)) #[] 0 (by simp) (by simp) rfl
              exact Lib.hid (by simpa using this)
            have hwl : Hid ((ccs wl).length = k * 4) := by show _ = _; rw [ccs_len, HN.out]
            have hwone := Lib.hid (ccs_one wl)
            have g5 := Bg.cell 5
            have b0 := B9.cell 0
            have b1 := B9.cell 1
            have b2 := B9.cell 2
            have b3 := B9.cell 3
            go_region_law (first
              | (refine step_append_sl elemR (by rfl) _ _ (by rfl) _ 0 _ [] (by rfl) E1.out _ k cap (ccs wl) (by rfl) ((SA9.out.turn0 T0).alloc _) hwl.out hwone.out (by omega) (by omega) (by simp; try omega) ?_; intro D3 cd3 w10 own10 hg10 hlie10; rw [Nat.zero_add, List.nil_append] at own10;
                 have T10 : Turn [] w9 w10 := (T0.alloc _).andThen (Turn.of_grown (S := [w9.heap.size]) hg10 (by simp)) (by simp);
                 have z10 := T10.size; obtain ⟨-, q0, q1, q2, q3, -⟩ := A1 w10 T10)
              | (refine step_append_sl elemR (by rfl) _ _ (by rfl) _ 0 _ [] (by rfl) (E1.out.alloc _) _ k cap (ccs wl) (by rfl) (((SA9.out.turn0 T0).alloc _).alloc _) hwl.out hwone.out (by omega) (by omega) (by simp; try omega) ?_; intro D3 cd3 w10 own10 hg10 hlie10; rw [Nat.zero_add, List.nil_append] at own10;
                 have T10 : Turn [] w9 w10 := ((T0.alloc _).alloc _).andThen (Turn.of_grown (S := [w9.heap.size]) hg10 (by simp)) (by simp);
                 have z10 := T10.size; obtain ⟨-, q0, q1, q2, q3, -⟩ := A1 w10 T10; have SL10 : Sl w10 (some ⟨w9.heap.size + 1, 0, none⟩) [.int .i64 x1, .int .i64 x2, .int .i64 x3, .int .i64 x4] := by simpa using (Sl.new (w9.drew.alloc (.cells #[] 37)) #[.int .i64 x1, .int .i64 x2, .int .i64 x3, .int .i64 x4] 37).turn (Turn.of_grown (S := [w9.heap.size]) hg10 (by simp)) (by intro a ha; cases ha; simp))
              | (refine step_append_sl elemR (by rfl) _ _ (by rfl) _ 0 _ [] (by rfl) E3.out _ k cap (ccs wl) (by rfl) (((SA9.out.turn0 T0).alloc _).alloc _) hwl.out hwone.out (by omega) (by omega) (by simp; try omega) ?_; intro D3 cd3 w10 own10 hg10 hlie10; rw [Nat.zero_add, List.nil_append] at own10;
                 have T10 : Turn [] w9 w10 := ((T0.alloc _).alloc _).andThen (Turn.of_grown (S := [w9.heap.size + 1]) hg10 (by simp)) (by simp);
                 have z10 := T10.size; obtain ⟨-, q0, q1, q2, q3, -⟩ := A1 w10 T10; have SL10 : Sl w10 (some ⟨w9.heap.size, 0, none⟩) [.int .i64 x1, .int .i64 x2, .int .i64 x3, .int .i64 x4] := by simpa using ((Sl.new w9.drew #[.int .i64 x1, .int .i64 x2, .int .i64 x3, .int .i64 x4] 37).alloc (.cells #[] 37)).turn (Turn.of_grown (S := [w9.heap.size + 1]) hg10 (by simp)) (by intro a ha; cases ha; simp))
              | (refine step_append_sl elemR (by rfl) _ _ (by rfl) D3 k cd3 (ccs wl) (by rfl) (own10.alloc _) _ 1 1 [.int .i64 x1, .int .i64 x2, .int .i64 x3, .int .i64 x4] (by rfl) (Sl.new _ #[.int .i64 x1, .int .i64 x2, .int .i64 x3, .int .i64 x4] _) (by simp) (by simp [Value.oneCell']) (by omega) (by omega) (by simp; omega) ?_; intro D4 cd4 w11 own11 hg11 hlie11;
                 have T11 : Turn [] w9 w11 := (T10.alloc (.cells #[.int .i64 x1, .int .i64 x2, .int .i64 x3, .int .i64 x4] 37)).andThen (grown_turn hg11) (fun i hi => .inr ((own_ltA own10 i hi).2));
                 have z11 := T11.size; have f115 := (T11.blk Bg (by simp)).frozen 5; have c115 := (T11.blk Bg (by simp)).cell 5)
              | (refine step_append_sl elemR (by rfl) _ _ (by rfl) D3 k cd3 (ccs wl) (by rfl) own10 _ 1 1 [.int .i64 x1, .int .i64 x2, .int .i64 x3, .int .i64 x4] (by rfl) SL10 (by simp) (by simp [Value.oneCell']) (by omega) (by omega) (by omega) ?_; intro D4 cd4 w11 own11 hg11 hlie11;
                 have T11 : Turn [] w9 w11 := T10.andThen (grown_turn hg11) (fun i hi => .inr ((own_ltA own10 i hi).2));
                 have z11 := T11.size; have f115 := (T11.blk Bg (by simp)).frozen 5; have c115 := (T11.blk Bg (by simp)).cell 5))
            all_goals
              go_wp2_with fail
              go_ret
              have Te : Turn [g] w11 (w11.setCell ⟨g, 5, none⟩ (.slice D4 (k + 1) cd4)) := (Turn.refl [g] w11).setCell (.inl (by simp)) _
              have hD4 := own_ltA own11
              have zz := T3.size
              have zw := hT6'.size
              have hgD4 : g ∉ blks D4 := fun hm => by have := (hD4 g hm).2; omega
              refine ⟨by rw [hv1.out]; simp, .inr ⟨hv1.out, D4, cd4, D2, cd2, ⟨by simpa using (T11.blk Bg (by simp)).set_ 5 (.slice D4 (k + 1) cd4), ?_, by simp [HN.out], (own_caps own11).1, ?_, by simp [HLN.out], hgD4, hgD2⟩, fun i hi => by have := hD4 i hi; have := Te.size; omega, fun i hi => by have := hD2 i hi; have := Te.size; omega, (((T6.mono (by simp)).trans T69).trans (T11.mono (by simp))).trans Te⟩⟩
              · rw [ccs_append]
                exact (Sl.of_own own11).turn Te (off_blks (fun i hi hm => hgD4 (by simp at hm; rw [← hm]; exact hi)))
              · rw [tcs_append]
                exact ((Sl.of_own HO9.out).turn0 T11).turn Te (off_blks (fun i hi hm => hgD2 (by simp at hm; rw [← hm]; exact hi)))
          · have e0' : (ev == 0) = false := by simpa using e0
            have e0'' : (ev != 0) = true := by simpa using e0
            have E0 := Lib.hid e0
            clear e0
            go_wp2_with fail
            go_ret
            exact Offered.no HR.out hv1.out E0.out (by simp) T6
  · have hv : Hid (refE (o1, o2, o3, o4) wl T times s t (x1, x2, x3, x4) = 10) := by
      show refE _ _ _ _ _ _ _ = _
      unfold refE
      rw [if_pos (by simpa using hr)]
    have RR := Lib.hid (rightR_c x1 x2 x3 x4)
    have hrd : Hid (decide (Right (x1, x2, x3, x4)) = false) := by show _ = _; simpa using hr
    clear hr
    go_enter Try.func13, Try.ntmps13
    go_wp2_with fail
    refine (RR.out _).mono ?_
    rw [hrd.out]
    rintro e w1 ⟨rfl, hT1⟩
    go_wp2_with fail
    go_ret
    exact Offered.no HR.out hv.out (by decide) (by simp) (TX.trans hT1)
end Go.Proofs.Ytpdencmgjihnfaa
