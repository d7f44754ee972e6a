/- The walk of the law ProbeRounds. -/
import Derived.Test.YtibepkipbmfonaaRefRound
import Derived.Test.YtibepkipbmfonaaSame8
import Derived.Deep.RegionHeld3
namespace Go.Proofs.Ytibepkipbmfonaa
open Go.RowKit Go.ChangeMaps

theorem same8_eq (A B : Option Addr) (n m ca cb : Nat) (xs : List Int) (w : World) (hx : Sl w A (i64s xs)) (hy : Sl w B (i64s xs)) (hn : xs.length = n) (hm : xs.length = m) (hl : n ≤ 9223372036854775806) :
    Calls Try.prog 13 #[.slice A n ca, .slice B m cb] w fun e w' => e = .returned (.bool true) ∧ Turn [] w w' := by
  have := same8_c A B n m ca cb xs xs w hx hy hn hm hl
  simpa using this

theorem left2_c (r n : Nat) (B : Nat → Prop) (ord : List Int) (cnt : Int) (w : World) (hr : RIs w B r ord cnt) (hl : ord.length ≤ 17592186044416) (hn : ord.length = n) :
    Calls Try.prog 14 #[.pointer (some ⟨r, 0, none⟩)] w (NewInts w n ord) := by
  subst hn
  exact left_c r B ord cnt w hr hl

theorem takeL_len (tg : List Int) : ∀ o : List Int, (takeL tg o).2.length ≤ o.length
  | [] => by simp [takeL]
  | x :: r => by
    unfold takeL
    split
    · simp
    · have := takeL_len tg r
      simp
      omega
theorem rnext_len {tg ord : List Int} {s cnt : Int} {N : Nat} (h1 : ord.length ≤ N) (h2 : tg.length ≤ N) : (rnext tg s ord cnt).2.2.1.length ≤ N := by
  unfold rnext
  split
  · exact h1
  · rcases htk : takeL tg ord with ⟨_ | y, o1⟩
    · have a := takeL_len tg (mixL s (onceL tg)).2
      have b := mixL_length s (onceL tg)
      have c := onceL_length_le tg
      simp only
      omega
    · have a := takeL_len tg ord
      rw [htk] at a
      simp only at a ⊢
      omega

set_option maxRecDepth 100000 in
set_option maxHeartbeats 4000000 in
theorem rounds_walk (seed : Int) (A : Option Addr) (len cap : Nat) (As : Nat → Option Addr) (ns cs : Nat → Nat) (Z : Nat → List Int) (w : World) (hlm : len ≤ maxLen) (hR : Rows2 w .i64 A len As ns cs Z) :
    Calls Try.prog 4 #[.int .u64 seed, .slice A len cap] w fun e w' => e = .returned (.bool true) ∧ Turn [] w w' := by
  unfold maxLen at hlm
  have HRR := Lib.hid hR
  clear hR
  go_enter Try.func4, Try.ntmps4
  go_wp2_with fail
  refine (seeded_c seed _).mono ?_
  rintro e w1 ⟨rfl, rfl⟩
  go_wp2_with fail
  have start : Turn [] w ((((w.alloc (.cells #[.int .u64 seed] 56)).alloc (.cells #[.int .u64 seed] 38)).alloc (.cells #[.slice none 0 0, .int .i64 0] 28)).alloc (.cells #[.slice none 0 0, .int .i64 0] 40)) ∧ Blk ((((w.alloc (.cells #[.int .u64 seed] 56)).alloc (.cells #[.int .u64 seed] 38)).alloc (.cells #[.slice none 0 0, .int .i64 0] 28)).alloc (.cells #[.slice none 0 0, .int .i64 0] 40)) w.heap.size 56 #[.int .u64 seed] ∧
      Blk ((((w.alloc (.cells #[.int .u64 seed] 56)).alloc (.cells #[.int .u64 seed] 38)).alloc (.cells #[.slice none 0 0, .int .i64 0] 28)).alloc (.cells #[.slice none 0 0, .int .i64 0] 40)) (w.heap.size + 1) 38 #[.int .u64 seed] ∧
      RIs ((((w.alloc (.cells #[.int .u64 seed] 56)).alloc (.cells #[.int .u64 seed] 38)).alloc (.cells #[.slice none 0 0, .int .i64 0] 28)).alloc (.cells #[.slice none 0 0, .int .i64 0] 40)) (w.heap.size + 4 ≤ ·) (w.heap.size + 2) [] 0 ∧
      RJs ((((w.alloc (.cells #[.int .u64 seed] 56)).alloc (.cells #[.int .u64 seed] 38)).alloc (.cells #[.slice none 0 0, .int .i64 0] 28)).alloc (.cells #[.slice none 0 0, .int .i64 0] 40)) (w.heap.size + 4 ≤ ·) (w.heap.size + 3) [] 0 ∧
      w.heap.size + 4 ≤ ((((w.alloc (.cells #[.int .u64 seed] 56)).alloc (.cells #[.int .u64 seed] 38)).alloc (.cells #[.slice none 0 0, .int .i64 0] 28)).alloc (.cells #[.slice none 0 0, .int .i64 0] 40)).heap.size := by
    have b0 := Blk.new w 56 #[.int .u64 seed]
    have b1 := Blk.new (w.alloc (.cells #[.int .u64 seed] 56)) 38 #[.int .u64 seed]
    have b2 := Blk.new ((w.alloc (.cells #[.int .u64 seed] 56)).alloc (.cells #[.int .u64 seed] 38)) 28 #[.slice none 0 0, .int .i64 0]
    have b3 := Blk.new (((w.alloc (.cells #[.int .u64 seed] 56)).alloc (.cells #[.int .u64 seed] 38)).alloc (.cells #[.slice none 0 0, .int .i64 0] 28)) 40 #[.slice none 0 0, .int .i64 0]
    simp only [World.size_alloc] at b1 b2 b3
    refine ⟨((((Turn.refl [] w).alloc _).alloc _).alloc _).alloc _, ((b0.alloc _).alloc _).alloc _, (b1.alloc _).alloc _, ⟨none, 0, 0, b2.alloc _, Sl.nil _ _, rfl, Nat.le_refl _, by simp, by simp, by omega⟩, ⟨none, 0, 0, b3, Sl.nil _ _, rfl, Nat.le_refl _, by simp, by simp, by omega⟩, by simp⟩
  obtain ⟨T0, d0, m0, r0, o0, z0⟩ := start
  generalize hw4 : ((((w.alloc (.cells #[.int .u64 seed] 56)).alloc (.cells #[.int .u64 seed] 38)).alloc (.cells #[.slice none 0 0, .int .i64 0] 28)).alloc (.cells #[.slice none 0 0, .int .i64 0] 40)) = w4 at *
  clear hw4
  go_loopw [9] (fun i wr => ∃ k : Nat, k ≤ len ∧ k ≤ 30 ∧ i = .int .i64 k ∧ ∃ s ord cnt, Blk wr w.heap.size 56 #[.int .u64 s] ∧ Blk wr (w.heap.size + 1) 38 #[.int .u64 s] ∧ RIs wr (w.heap.size + 4 ≤ ·) (w.heap.size + 2) ord cnt ∧ RJs wr (w.heap.size + 4 ≤ ·) (w.heap.size + 3) ord cnt ∧ 0 ≤ cnt ∧ cnt ≤ k ∧ ord.length ≤ 12 ∧ Turn [w.heap.size, w.heap.size + 1, w.heap.size + 2, w.heap.size + 3] w4 wr) (fun i _ => 31 - (intOf i).toNat)
  case atStart => exact ⟨0, by omega, by omega, rfl, seed, [], 0, d0, m0, r0, o0, by omega, by omega, by simp, Turn.refl _ _⟩
  case round =>
    obtain ⟨k, hk, hk30, rfl, s, ord, cnt, d1, m1, r1, o1, hc0, hc1, hol, hT⟩ := hrel
    clear d0 m0 r0 o0
    have i0 : (0 : Int) ≤ (k : Int) := Int.natCast_nonneg _
    by_cases hgo : k < len ∧ k < 30
    · obtain ⟨hlt, hlt30⟩ := hgo
      have i1 : (k : Int) < (len : Int) := by omega
      have i2 : (k : Int) < 30 := by omega
      obtain ⟨bl, off, rfl, hbl, hcc⟩ := HRR.out (by omega)
      obtain ⟨hck, hsk, hnk, hncs, hcm, -⟩ := hcc k hlt
      have Tw : Turn [] w wr := T0.andThen hT (by intro i hi; simp at hi; rcases hi with rfl | rfl | rfl | rfl <;> exact .inr (by omega))
      have hck' : wr.cell? ⟨bl, off + k, none⟩ = some (.slice (As k) (ns k) (cs k)) := (Tw.cell hbl (by simp)).trans hck
      have hbl' : bl < wr.heap.size := Nat.lt_of_lt_of_le hbl Tw.size
      have FW := Lib.hid (few_c (As k) (ns k) (cs k) 12 (Z k) wr (hsk.turn0 Tw) hnk hncs (by omega) hcm)
      have hm1 : ((Z k).take 12).length ≤ 12 := by simp; omega
      clear hcc hsk hnk hncs hcm hck
      generalize (Z k).take 12 = X at *
      generalize hXn : X.length = nx at *
      have XN := Lib.hid hXn
      clear hXn
      generalize As k = Ak at *
      generalize ns k = nk at *
      generalize cs k = ck at *
      have zr := hT.size
      go_wp2_with fail
      refine FW.out.mono ?_
      rintro e w5 ⟨B1, e1, rfl, ob, hT5⟩
      have d2 := hT5.blk d1 (by simp)
      have m2 := hT5.blk m1 (by simp)
      have r2 := r1.turn hT5 (by simp)
      have o2 := o1.turn hT5 (by simp)
      have z5 := hT5.size
      have sX := Sl.of_own ob
      have fX : Off B1 [w.heap.size, w.heap.size + 1, w.heap.size + 2, w.heap.size + 3] := fun a ha => by have := own_base ob a ha; simp; omega
      clear d1 m1 r1 o1 FW hck'
      go_wp2_with fail
      refine (rnext_c w.heap.size (w.heap.size + 2) (w.heap.size + 4 ≤ ·) s cnt ord X B1 nx e1 w5 d2 r2 (by omega) (fun b hb => by show _ ≤ b; omega) (by omega) sX (fun a ha => by have := fX a ha; simp at this ⊢; omega) XN.out (by omega) hc0 (by omega)).mono ?_
      have RR := Lib.hid (fun (w6 : World) (m3 : Blk w6 (w.heap.size + 1) 38 #[.int .u64 s]) (o3 : RJs w6 (w.heap.size + 4 ≤ ·) (w.heap.size + 3) ord cnt) (s3 : Sl w6 B1 (i64s X)) (z : w5.heap.size ≤ w6.heap.size) => rrnext_c (w.heap.size + 1) (w.heap.size + 3) (w.heap.size + 4 ≤ ·) s cnt ord X B1 nx e1 w6 m3 o3 (by omega) (fun b hb => by show _ ≤ b; omega) (by omega) s3 (fun a ha => by have := fX a ha; simp at this ⊢; omega) XN.out (by omega) hc0 (by omega))
      have hlen := rnext_len (s := s) (cnt := cnt) hol (show X.length ≤ 12 by rw [XN.out]; exact hm1)
      have hcn := rnext_cnt X s ord cnt
      generalize rnext X s ord cnt = q at *
      obtain ⟨q1, q2, q3, q4⟩ := q
      simp only at hlen hcn
      rintro e w6 ⟨rfl, d3, r3, hT6⟩
      simp only at d3 r3
      generalize hvx : q1.getD 0 = xx
      generalize hbx : q1.isSome = bb
      have m3 := hT6.blk m2 (by simp)
      have o3 := o2.turn hT6 (by simp) (by intro i hi; simp at hi; rcases hi with rfl | rfl <;> omega)
      have sX6 := sX.turn hT6 (fun a ha => by have := fX a ha; simp at this ⊢; omega)
      have z6 := hT6.size
      clear d2 r2
      go_wp2_with fail
      refine (RR.out w6 m3 o3 sX6 z6).mono ?_
      rintro e w7 ⟨rfl, m4, o4, hT7⟩
      simp only [hvx, hbx]
      simp only at m4 o4
      have d4 := hT7.blk d3 (by simp)
      have r4 := r3.turn hT7 (by simp) (by intro i hi; simp at hi; rcases hi with rfl | rfl <;> omega)
      have hT8 : Turn [w.heap.size, w.heap.size + 1, w.heap.size + 2, w.heap.size + 3] w4 w7 := ((hT.trans (hT5.mono (by simp))).trans (hT6.mono (by simp))).trans (hT7.mono (by simp))
      clear m2 o2 m3 o3 d3 r3 RR sX6 sX fX ob hT5 hT6 hT7 hT Tw
      obtain ⟨Ao, no, co, gb, gs, gn, gc, gm, gB, gr⟩ := o4
      have gn' := Lib.hid gn
      clear gn
      have SOF : ∀ w', Turn [] w7 w' → w'.cell? ⟨w.heap.size + 1 + 1 + 1, 0, none⟩ = some (.slice Ao no co) ∧ w'.cell? ⟨w.heap.size + 1 + 1 + 1, 1, none⟩ = some (.int .i64 q4) ∧ Turn [] w7 w' := fun w' h => ⟨(h.blk gb (by simp)).cell 0, (h.blk gb (by simp)).cell 1, h⟩
      have gn12 : no ≤ 12 := by rw [← gn'.out]; exact hlen
      have T7 := (Turn.refl [] w7).drew
      have SO7 := SOF w7 (Turn.refl _ _)
      go_wp2_with fail
      go_region_held3 (fun w' => w'.cell? ⟨w.heap.size + 1 + 1 + 1, 0, none⟩ = some (.slice Ao no co) ∧ w'.cell? ⟨w.heap.size + 1 + 1 + 1, 1, none⟩ = some (.int .i64 q4) ∧ Turn [] w7 w')
        (first | exact SOF _ (by assumption))
        (first
          | (go_at_call 14; refine (left2_c (w.heap.size + 2) no _ q3 q4 _ (r4.turn (by assumption) (by simp)) (by omega) gn'.out).mono ?_; rintro e w8 ⟨A', c', rfl, hown, hT1⟩; have hT1' : Turn [] w7 w8 := Turn.trans (by assumption) hT1)
          | (go_at_call 13; refine (same8_eq _ _ _ _ _ _ q3 _ (Sl.of_own (by assumption)) (gs.turn0 (by assumption)) gn'.out gn'.out (by omega)).mono ?_; rintro e w8 ⟨rfl, hT1⟩; have hT1' : Turn [] w7 w8 := Turn.trans (by assumption) hT1)
          | (go_at_call 15; refine (rounds_c (w.heap.size + 2) _ q3 q4 _ (r4.turn (by assumption) (by simp))).mono ?_; rintro e w8 ⟨rfl, rfl⟩))
      go_wp2_with fail
      go_roundw
      case rel =>
        have TE : ∀ wz, Turn [] w7 wz → ∃ k', k' ≤ len ∧ k' ≤ 30 ∧ Value.int IntKind.i64 ((k : Int) + 1) = .int .i64 k' ∧ ∃ s ord cnt, Blk wz w.heap.size 56 #[.int .u64 s] ∧ Blk wz (w.heap.size + 1) 38 #[.int .u64 s] ∧ RIs wz (w.heap.size + 4 ≤ ·) (w.heap.size + 2) ord cnt ∧ RJs wz (w.heap.size + 4 ≤ ·) (w.heap.size + 3) ord cnt ∧ 0 ≤ cnt ∧ cnt ≤ k' ∧ ord.length ≤ 12 ∧ Turn [w.heap.size, w.heap.size + 1, w.heap.size + 2, w.heap.size + 3] w4 wz :=
          fun wz h => ⟨k + 1, by omega, by omega, by go_num, q2, q3, q4, h.blk d4 (by simp), h.blk m4 (by simp), r4.turn h (by simp), (show RJs w7 (w.heap.size + 4 ≤ ·) (w.heap.size + 3) q3 q4 from ⟨Ao, no, co, gb, gs, gn'.out, gc, gm, gB, gr⟩).turn h (by simp), by omega, by omega, hlen, hT8.trans (h.mono (by simp))⟩
        exact TE _ (by assumption)
      case measure => simp [intOf]; omega
    · have Tw : Turn [] w wr := T0.andThen hT (by intro i hi; simp at hi; rcases hi with rfl | rfl | rfl | rfl <;> exact .inr (by omega))
      by_cases hkl : k < len
      · have i1 : (k : Int) < (len : Int) := by omega
        have i2 : ¬ (k : Int) < 30 := by omega
        go_wp2_with fail
        refine (known_c _).mono ?_
        rintro e w5 ⟨rfl, hT5⟩
        go_wp2_with fail
        go_ret
        exact ⟨by simp, Tw.trans hT5⟩
      · have i1 : ¬ (k : Int) < (len : Int) := by omega
        go_wp2_with fail
        refine (known_c _).mono ?_
        rintro e w5 ⟨rfl, hT5⟩
        go_wp2_with fail
        go_ret
        exact ⟨by simp, Tw.trans hT5⟩
end Go.Proofs.Ytibepkipbmfonaa
