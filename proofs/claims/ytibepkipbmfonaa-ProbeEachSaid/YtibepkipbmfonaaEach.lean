/- The walk of the law ProbeEach. -/
import Derived.Test.YtibepkipbmfonaaProbeK
import Derived.Test.YtibepkipbmfonaaEachP
namespace Go.Proofs.Ytibepkipbmfonaa
open Go.RowKit Go.ChangeMaps

/-- The address of 's[l:h]'. -/
def midA (A : Option Addr) (c l : Nat) : Option Addr := if c = l then A else A.map (·.add l)
theorem run_slice_mid {P : Program} {t e : TypeId} {i : TypeInfo} (ht : P.underlying t = some (.slice e)) (hi : P.info? e = some i) (hsz : i.size = 1) (w : World) (a : Option Addr) (n c : Nat) (k k' : IntKind) (l h : Int) (h1 : 0 ≤ l) (h2 : l ≤ h) (h3 : h ≤ (c : Int)) :
    (Instr.slice t (.slice a n c) (some (.int k l)) (some (.int k' h)) none).run P w = .ok (.slice (midA a c l.toNat) (h.toNat - l.toNat) (c - l.toNat)) w := by
  have e1 : 0 ≤ h := by omega
  have e2 : l ≤ ((h.toNat : Nat) : Int) := by omega
  simp [Instr.slice, run_underlying ht, Instr.sliceBounds, Instr.sliceBound, asIntOf, e1, e2, h1, h3, sizeOf, typeInfo, hi, hsz, midA]
  intro hh
  omega
theorem Sl.mid {w : World} {A : Option Addr} {xs : List Value} {c l m : Nat} (h : Sl w A xs) (hc : xs.length ≤ c) : Sl w (midA A c l) ((xs.drop l).take m) := fun hpos => by
  have hl : l < xs.length := by simp at hpos; omega
  obtain ⟨b, off, rfl, hb, hcell⟩ := h (by omega)
  have hne : c ≠ l := by omega
  refine ⟨b, off + l, by simp [midA, hne, WideShapes.add_plain], hb, fun j u hu => ?_⟩
  rw [List.getElem?_take] at hu
  split at hu
  · rw [List.getElem?_drop] at hu
    rw [show off + l + j = off + (l + j) by omega]
    exact hcell _ u hu
  · cases hu

theorem own_turn {S : List Nat} {w w' : World} {base n size : Nat} {e : TypeId} {v : Value} {xs : List Value} (h : w.ownsRow base e size v n xs) (hT : Turn S w w') (hS : ∀ i ∈ S, i < base) : w'.ownsRow base e size v n xs := by
  obtain ⟨h1, h2⟩ := h
  refine ⟨h1, ?_⟩
  rcases h2 with h2 | ⟨g, cap, cur, hv, hb, hg, hr⟩
  · exact .inl h2
  · refine .inr ⟨g, cap, cur, hv, hb, ?_, hr⟩
    have hlt := lt_of_some hg
    rw [hT.block g hlt (fun hm => by have := hS g hm; omega)]
    exact hg

theorem each_window {Y told ord : List Int} {m i k : Nat} (hm : (onceL Y).length = m) (ht : told.length = 40) (h : Y ≠ [] → Rounded (onceL Y) (told ++ ord.filter (· ∈ Y))) (hk : k < m) (hi : i + 2 * m ≤ 40) : ∃ x, (onceL Y)[k]? = some x ∧ decide (x ∈ (told.drop i).take (2 * m)) = true := by
  have hkl : k < (onceL Y).length := by omega
  have hY : Y ≠ [] := by
    rintro rfl
    simp [onceL] at hkl
  refine ⟨(onceL Y)[k], List.getElem?_eq_getElem hkl, ?_⟩
  have := (h hY).window (i := i) (by simp; omega) (List.getElem_mem hkl)
  rw [hm, List.drop_append_of_le_length (by omega), List.take_append_of_le_length (by simp; omega)] at this
  simpa using this
/-- From block n on, and not where the slice D lies. -/
def FreeOf (n : Nat) (D : Option Addr) (b : Nat) : Prop := n ≤ b ∧ D.map (·.block) ≠ some b
theorem FreeOf.not {n r : Nat} {D : Option Addr} (h : r < n) : ¬ FreeOf n D r := fun hf => by have := hf.1; omega
theorem FreeOf.all {w : World} {base m ct n : Nat} {D : Option Addr} {xs : List Value} {e : TypeId} (h : w.ownsRow base e 1 (.slice D m ct) m xs) (hn : n ≤ w.heap.size) : ∀ b, w.heap.size ≤ b → FreeOf n D b := fun b hb => by
  refine ⟨by omega, fun he => ?_⟩
  obtain ⟨a, ha, hab⟩ := Option.map_eq_some_iff.1 he
  have := own_lt h a ha
  omega
theorem RIs.grow {w w' : World} {n r : Nat} {D A' : Option Addr} {ord : List Int} {cnt : Int} (h : RIs w (FreeOf n D) r ord cnt) (hg : w.grownBy w' (D.map (·.block))) (hl : Lies w D A') (hD : ∀ a, D = some a → n ≤ a.block) (hr : r < n) : RIs w' (FreeOf n A') r ord cnt := by
  obtain ⟨A, m, c, g1, g2, g3, g4, g5, g6, g7⟩ := h
  have hT : Turn (D.toList.map (·.block)) w w' := Turn.of_grown hg (by intro k hk; cases D <;> simp_all)
  have hS : ∀ i, i ∈ D.toList.map (·.block) → ∃ a, D = some a ∧ a.block = i := by
    intro i hi
    cases D with
    | none => simp at hi
    | some a => exact ⟨a, rfl, by simp at hi; exact hi.symm⟩
  refine ⟨A, m, c, hT.blk g1 (fun hm => ?_), g2.turn hT (fun a ha hm => ?_), g3, g4, g5, fun a ha => ?_, FreeOf.not hr⟩
  · obtain ⟨a, ha, hab⟩ := hS _ hm
    have := hD a ha
    omega
  · obtain ⟨a0, h0, hab⟩ := hS _ hm
    refine (g6 a ha).1.2 ?_
    rw [h0, ← hab]
    rfl
  · obtain ⟨⟨h1, h2⟩, h3⟩ := g6 a ha
    refine ⟨⟨h1, fun he => ?_⟩, Nat.lt_of_lt_of_le h3 hT.size⟩
    obtain ⟨a', ha', hab⟩ := Option.map_eq_some_iff.1 he
    rcases hl a' ha' with ⟨a0, h0, hb⟩ | hb
    · refine h2 ?_
      rw [h0, ← hab, hb]
      rfl
    · omega
theorem RIs.mono {w : World} {B B' : Nat → Prop} {r : Nat} {ord : List Int} {cnt : Int} (h : RIs w B r ord cnt) (hB : ∀ b, B b → B' b) (hr : ¬ B' r) : RIs w B' r ord cnt := by
  obtain ⟨A, m, c, g1, g2, g3, g4, g5, g6, g7⟩ := h
  exact ⟨A, m, c, g1, g2, g3, g4, g5, fun a ha => ⟨hB _ (g6 a ha).1, (g6 a ha).2⟩, hr⟩
theorem each_more {w w' : World} {d n r : Nat} {s zc cnt : Int} {zo told : List Int} {xx : Int} {Y : List Int} {q : Nat} {D A' : Option Addr} {base ct m : Nat} {xs : List Value} (hot : w.ownsRow base 3 1 (.slice D m ct) m xs) (hg : w.grownBy w' (D.map (·.block))) (hl : Lies w D A') (hd : Blk w d 56 #[.int .u64 s]) (hr : RIs w (FreeOf n D) r zo zc) (hdB : d < n) (hrB : r < n) (hB : n ≤ base) (hB5 : Hid (Y ≠ [] → Rounded (onceL Y) ((told ++ [xx]) ++ zo.filter (· ∈ Y)))) (h0 : 0 ≤ cnt) (h1 : cnt ≤ zc) (h2 : zc ≤ cnt + 1) (h3 : cnt ≤ 7 + (q : Int)) :
    ∃ s ord cnt, Blk w' d 56 #[.int .u64 s] ∧ RIs w' (FreeOf n A') r ord cnt ∧ 0 ≤ cnt ∧ cnt ≤ 7 + ((q + 1 : Nat) : Int) ∧ Hid (Y ≠ [] → Rounded (onceL Y) ((told ++ [xx]) ++ ord.filter (· ∈ Y))) := by
  have hT : Turn (D.toList.map (·.block)) w w' := Turn.of_grown hg (by intro k hk; cases D <;> simp_all)
  refine ⟨s, zo, zc, hT.blk hd (fun hm => ?_), hr.grow hg hl (fun a ha => Nat.le_trans hB (own_base hot a ha)) hrB, by omega, by omega, hB5⟩
  have := own_lo hot hm
  omega

theorem each_round {Y told ord : List Int} {s cnt : Int} {m : Nat} (hm : (onceL Y).length = m) (h : Y ≠ [] → Rounded (onceL Y) (told ++ ord.filter (· ∈ Y))) : (rnext Y s ord cnt).1.isSome = decide (0 < m) ∧ ((rnext Y s ord cnt).1.isSome = true → decide ((rnext Y s ord cnt).1.getD 0 ∈ onceL Y) = true) ∧ cnt ≤ (rnext Y s ord cnt).2.2.2 ∧ (rnext Y s ord cnt).2.2.2 ≤ cnt + 1 ∧ (Y ≠ [] → Rounded (onceL Y) ((told ++ [(rnext Y s ord cnt).1.getD 0]) ++ (rnext Y s ord cnt).2.2.1.filter (· ∈ Y))) := by
  have hc := rnext_cnt Y s ord cnt
  by_cases hY : Y = []
  · subst hY
    have : m = 0 := by rw [← hm]; rfl
    subst this
    exact ⟨by simp [rnext], by simp [rnext], hc.1, hc.2, fun h => absurd rfl h⟩
  · obtain ⟨x, h1, h2, h3⟩ := rnext_round hY s ord cnt
    have hp : 0 < m := by rw [← hm]; exact List.length_pos_iff.2 (onceL_ne hY)
    refine ⟨by rw [h1]; simp [hp], fun _ => ?_, hc.1, hc.2, fun _ => ?_⟩
    · rw [h1]
      simpa using (mem_onceL Y).2 h2
    · rw [h1]
      exact h3 told (h hY)

set_option maxRecDepth 100000 in
set_option maxHeartbeats 4000000 in
theorem each_walk (seed : Int) (A1 A2 : Option Addr) (n1 c1 n2 c2 : Nat) (xs ys : List Int) (w : World) (hx : Sl w A1 (i64s xs)) (hxn : xs.length = n1) (hxc : n1 ≤ c1) (hxm : c1 ≤ maxLen) (hy : Sl w A2 (i64s ys)) (hyn : ys.length = n2) (hyc : n2 ≤ c2) (hym : c2 ≤ maxLen) :
    Calls Try.prog 3 #[.int .u64 seed, .slice A1 n1 c1, .slice A2 n2 c2] w fun e w' => e = .returned (.bool true) ∧ Turn [] w w' := by
  go_enter Try.func3, Try.ntmps3
  have HXN := Lib.hid hxn
  have HYN := Lib.hid hyn
  clear hxn hyn
  go_wp2_with fail
  refine (seeded_c seed _).mono ?_
  rintro e w1 ⟨rfl, rfl⟩
  go_wp2_with fail
  have d0 := ((Blk.new w 56 #[.int .u64 seed]).alloc (.cells #[.slice none 0 0, .int .i64 0] 28))
  have r0 := (Blk.new (w.alloc (.cells #[.int .u64 seed] 56)) 28 #[.slice none 0 0, .int .i64 0])
  have hz : (w.alloc (.cells #[.int .u64 seed] 56)).heap.size = w.heap.size + 1 := by simp
  rw [hz] at r0
  have R0 : RIs ((w.alloc (.cells #[.int .u64 seed] 56)).alloc (.cells #[.slice none 0 0, .int .i64 0] 28)) (w.heap.size + 2 ≤ ·) (w.heap.size + 1) [] 0 :=
    ⟨none, 0, 0, r0, Sl.nil _ _, rfl, Nat.le_refl _, by simp, by simp, by omega⟩
  have T1 := ((Turn.refl [] w).alloc (.cells #[.int .u64 seed] 56)).alloc (.cells #[.slice none 0 0, .int .i64 0] 28)
  have z1 : ((w.alloc (.cells #[.int .u64 seed] 56)).alloc (.cells #[.slice none 0 0, .int .i64 0] 28)).heap.size = w.heap.size + 2 := by simp
  have Z1 := Lib.hid z1
  clear r0 hz z1
  refine (few_c A1 n1 c1 12 xs _ (hx.turn0 T1) HXN.out hxc (by omega) hxm).mono ?_
  have m1 : (xs.take 12).length ≤ 12 := by simp; omega
  generalize xs.take 12 = X at *
  generalize hXn : X.length = nx at *
  have XN := Lib.hid hXn
  clear hXn
  rintro e w2 ⟨B1, e1, rfl, o1, hT2⟩
  have d2 := hT2.blk d0 (by simp)
  have R2 : RIs w2 (w.heap.size + 2 ≤ ·) (w.heap.size + 1) [] 0 := R0.turn hT2 (by simp)
  have T2 := T1.trans hT2
  clear d0 R0
  go_wp2_with fail
  refine (few_c A2 n2 c2 12 ys _ (hy.turn0 T2) HYN.out hyc (by omega) hym).mono ?_
  have m2 : (ys.take 12).length ≤ 12 := by simp; omega
  generalize ys.take 12 = Y at *
  generalize hYn : Y.length = ny at *
  have YN := Lib.hid hYn
  clear hYn
  rintro e w3 ⟨B2, e2, rfl, o2, hT3⟩
  have d3 := hT3.blk d2 (by simp)
  have R3 : RIs w3 (w.heap.size + 2 ≤ ·) (w.heap.size + 1) [] 0 := R2.turn hT3 (by simp)
  have T3 := T2.trans hT3
  have s1 := (Sl.of_own o1).turn0 hT3
  have s2 := Sl.of_own o2
  have f1 : Off B1 [w.heap.size, w.heap.size + 1] := fun a ha => by have := own_base o1 a ha; rw [Z1.out] at this; simp; omega
  have f2 : Off B2 [w.heap.size, w.heap.size + 1] := fun a ha => by have := own_base o2 a ha; have := hT2.size; rw [Z1.out] at this; simp; omega
  have hz3 : w.heap.size + 2 ≤ w3.heap.size := by have := hT2.size; rw [Z1.out] at this; have := hT3.size; omega
  clear d2 R2 T2 T1 o1 o2 hT2 hT3 hx hy Z1
  go_wp2_with fail
  go_loopw [9] (fun i wr => ∃ k : Nat, k ≤ 7 ∧ i = .int .i64 k ∧ ∃ s ord cnt, Blk wr w.heap.size 56 #[.int .u64 s] ∧ RIs wr (w.heap.size + 2 ≤ ·) (w.heap.size + 1) ord cnt ∧ 0 ≤ cnt ∧ cnt ≤ k ∧ ord.Nodup ∧ Turn [w.heap.size, w.heap.size + 1] w3 wr) (fun i _ => 7 - (intOf i).toNat)
  case atStart => exact ⟨0, by omega, rfl, seed, [], 0, d3, R3, by omega, by omega, List.nodup_nil, Turn.refl _ _⟩
  case round =>
    obtain ⟨k, hk, rfl, s, ord, cnt, db, rb, hc0, hc1, hnd, hTr⟩ := hrel
    have hc7 : cnt ≤ 7 := by omega
    by_cases hlt : k < 7
    · have RC := Lib.hid (rnext_c w.heap.size (w.heap.size + 1) (w.heap.size + 2 ≤ ·) s cnt ord X B1 nx e1 wr db rb (by omega) (by have := hTr.size; intro b hb; show _ ≤ b; omega) (by omega) (s1.turn hTr f1) f1 XN.out (by omega) hc0 (by omega))
      have hcn := rnext_cnt X s ord cnt
      have hnn := rnext_nodup X s cnt hnd
      generalize rnext X s ord cnt = q at *
      obtain ⟨q1, q2, q3, q4⟩ := q
      simp only at hcn hnn
      go_wp2_with fail
      refine RC.out.mono ?_
      rintro e w4 ⟨rfl, d4, R4, hT4⟩
      simp only at d4 R4
      go_wp2_with fail
      go_roundw
      case rel => exact ⟨k + 1, by omega, by go_num, q2, q3, q4, d4, R4, by omega, by omega, hnn, hTr.trans hT4⟩
      case measure => simp [intOf]; omega
    · have Ta : Turn [] w wr := T3.andThen hTr (by simp)
      have sa := s2.turn hTr f2
      have za : w.heap.size + 2 ≤ wr.heap.size := by have := hTr.size; omega
      clear hTr T3 s2 s1 d3 R3 hc1 hz3
      obtain ⟨wa, rfl⟩ : ∃ wo : World, wo = wr := ⟨_, rfl⟩
      go_wp2_with fail
      go_loopw [10, 11] (fun o i wb => ∃ k : Nat, k ≤ ny ∧ i = .int .i64 k ∧ ∃ C m cb, o = .slice C m cb ∧ Hid ((onceL (Y.take k)).length = m) ∧ m ≤ k ∧ wb.ownsRow wa.heap.size 3 1 (.slice C m cb) m (i64s (onceL (Y.take k))) ∧ Turn [] wa wb) (fun _ i _ => ny - (intOf i).toNat)
      case atStart => exact ⟨0, Nat.zero_le _, rfl, none, 0, 0, rfl, Lib.hid rfl, Nat.le_refl _, World.ownsRow_nil _ _ _ _, Turn.refl _ _⟩
      case round =>
        obtain ⟨j, hj, rfl, C, m, cb, rfl, HM, hm, ho, hT⟩ := hrel
        by_cases hlt : j < ny
        · have kx : j < Y.length := by rw [YN.out]; exact hlt
          obtain ⟨b1, o1, rfl, l1, cc1⟩ := i64s_at (sa.turn0 hT) kx
          have hs := onceL_take_succ kx
          have HS := Lib.hid hs
          clear hs
          have i0 : (0 : Int) ≤ (j : Int) := Int.natCast_nonneg _
          have i1 : (j : Int) < (ny : Int) := by omega
          generalize hu : Y[j] = u at *
          clear hu
          generalize onceL (Y.take j) = L at *
          have CC := Lib.hid (in_c C m cb L u _ (Sl.of_own ho) HM.out (by omega))
          by_cases hin : u ∈ L
          · have hd : Hid (decide (u ∈ L) = true) := by show decide (u ∈ L) = true; simp [hin]
            have HS' : Hid (onceL (Y.take (j + 1)) = L) := by show onceL (Y.take (j + 1)) = L; rw [HS.out, if_pos hin]
            clear hin
            go_wp2_with fail
            refine CC.out.mono ?_
            rw [hd.out]
            rintro e w4 ⟨rfl, rfl⟩
            go_wp2_with fail
            go_roundw
            case rel => exact ⟨j + 1, by omega, by go_num, C, m, cb, rfl, by rw [HS'.out]; exact HM, by omega, by rw [HS'.out]; exact ho, hT⟩
            case measure => simp [intOf]; omega
          · have hd : Hid (decide (u ∈ L) = false) := by show decide (u ∈ L) = false; simp [hin]
            have HS' : Hid (onceL (Y.take (j + 1)) = L ++ [u]) := by show onceL (Y.take (j + 1)) = L ++ [u]; rw [HS.out, if_neg hin]
            clear hin
            have hb0 := hT.size
            go_wp2_with fail
            refine CC.out.mono ?_
            rw [hd.out]
            rintro e w4 ⟨rfl, rfl⟩
            have hb1 : wa.heap.size ≤ wr.heap.size := hT.size
            go_wp2_with (at_builtin; refine wpList_append_sl elemI rfl _ _ rfl C m cb (i64s L) rfl (ho.alloc _) (some ⟨wr.heap.size, 0, none⟩) 1 1 [.int .i64 u] rfl (Sl.new _ #[.int .i64 u] _) (by simp) (by simp [Value.oneCell']) (by omega) (by omega) (by simp; omega) ?_; intro A' c' w5 hown1 hg hlie)
            go_roundw
            case rel =>
              refine ⟨j + 1, by omega, by go_num, A', m + 1, c', rfl, by rw [HS'.out]; show (L ++ [u]).length = m + 1; simp [HM.out], by omega, ?_, ?_⟩
              · rw [HS'.out]
                simpa [i64s] using hown1
              · exact (hT.alloc _).andThen (Turn.of_grown (S := C.toList.map (·.block)) hg (by intro k hk; cases C <;> simp_all)) (by intro i hi; exact .inr (own_lo ho hi))
            case measure => simp [intOf]; omega
        · have e : onceL (Y.take j) = onceL Y := by rw [List.take_of_length_le (by rw [YN.out]; omega)]
          rw [e] at ho HM
          clear e
          have si := Sl.of_own ho
          have sb := sa.turn0 hT
          have db2 := hT.blk db (by simp)
          have rb2 : RIs wr (FreeOf (w.heap.size + 2) none) (w.heap.size + 1) ord cnt := (rb.turn hT (by simp)).mono (fun b hb => ⟨hb, by simp⟩) (FreeOf.not (by omega))
          have Tb := Ta.trans hT
          have zb : w.heap.size + 2 ≤ wr.heap.size := by have := hT.size; omega
          have fi : Off C [w.heap.size, w.heap.size + 1] := fun a ha => by have := own_base ho a ha; simp; omega
          have hm12 : m ≤ 12 := by omega
          have hst := rounded_start (tg := Y) hnd
          have HST := Lib.hid hst
          clear hst ho sa db rb Ta hT hm hnd za
          obtain ⟨wb, rfl⟩ : ∃ wo : World, wo = wr := ⟨_, rfl⟩
          have hf0 := World.ownsRow_nil wb wb.heap.size 3 1
          rcases Nat.eq_zero_or_pos m with rfl | hm0
          · have hci0 : (0 : Int) = ((0 : Nat) : Int) := rfl
            clear hci0
            go_wp2_with fail
            go_loopw [13, 14] (fun o i wc => ∃ k : Nat, k ≤ 40 ∧ i = .int .i64 k ∧ ∃ C ct told, o = .slice C k ct ∧ Hid (told.length = k) ∧ wc.ownsRow wb.heap.size 3 1 (.slice C k ct) k (i64s told) ∧ (∃ s ord cnt, Blk wc w.heap.size 56 #[.int .u64 s] ∧ RIs wc (FreeOf (w.heap.size + 2) C) (w.heap.size + 1) ord cnt ∧ 0 ≤ cnt ∧ cnt ≤ 7 + k ∧ Hid (Y ≠ [] → Rounded (onceL Y) (told ++ ord.filter (· ∈ Y)))) ∧ Turn [w.heap.size, w.heap.size + 1] wb wc) (fun _ i _ => 40 - (intOf i).toNat)
            case atStart => exact ⟨0, by omega, rfl, none, 0, [], rfl, Lib.hid rfl, hf0, ⟨s, ord, cnt, db2, rb2, by omega, by omega, Lib.hid fun _ => HST.out⟩, Turn.refl _ _⟩
            case round =>
              obtain ⟨q, hq, rfl, D, ct, told, rfl, HTL, hot, ⟨s, ord, cnt, db, rb, hc0, hc1, HR⟩, hTr⟩ := hrel
              by_cases hq40 : q < 40
              · have RC := Lib.hid (rnext_c w.heap.size (w.heap.size + 1) (FreeOf (w.heap.size + 2) D) s cnt ord Y B2 ny e2 wr db rb (FreeOf.not (by omega)) (FreeOf.all hot (by have := hTr.size; omega)) (by omega) (sb.turn hTr f2) f2 YN.out (by omega) hc0 (by omega))
                have hb0 := hTr.size
                have HB : Hid ((rnext Y s ord cnt).1.isSome = decide (0 < 0) ∧ ((rnext Y s ord cnt).1.isSome = true → decide ((rnext Y s ord cnt).1.getD 0 ∈ onceL Y) = true) ∧ cnt ≤ (rnext Y s ord cnt).2.2.2 ∧ (rnext Y s ord cnt).2.2.2 ≤ cnt + 1 ∧ (Y ≠ [] → Rounded (onceL Y) ((told ++ [(rnext Y s ord cnt).1.getD 0]) ++ (rnext Y s ord cnt).2.2.1.filter (· ∈ Y)))) := each_round HM.out HR.out
                generalize rnext Y s ord cnt = z at *
                obtain ⟨z1, zs, zo, zc⟩ := z
                simp only at HB
                obtain ⟨hb1, hb2, hb3, hb4, hb5⟩ := HB.out
                generalize hbx : z1.isSome = bb at *
                generalize hvx : z1.getD 0 = xx at *
                have HB5 := Lib.hid hb5
                have RC2 : Hid (Calls Try.prog 9 #[.pointer (some ⟨w.heap.size + 1, 0, none⟩), .pointer (some ⟨w.heap.size, 0, none⟩), .slice B2 ny e2] wr fun e w' => e = .returned (.tuple #[.int .i64 xx, .bool bb]) ∧ Blk w' w.heap.size 56 #[.int .u64 zs] ∧ RIs w' (FreeOf (w.heap.size + 2) D) (w.heap.size + 1) zo zc ∧ Turn [w.heap.size, w.heap.size + 1] wr w') := by
                  refine Lib.hid (RC.out.mono ?_)
                  rintro e w' ⟨h1, h2, h3, h4⟩
                  simp only [hbx, hvx] at h1
                  exact ⟨h1, h2, h3, h4⟩
                clear RC HB hb5 hbx hvx
                cases bb with
                | false =>
                  clear hb1 hb2
                  go_wp2_with fail
                  refine RC2.out.mono ?_
                  rintro e w4 ⟨rfl, d4, R4, hT4⟩
                  have hot4 := own_turn hot hT4 (by intro i hi; simp at hi; rcases hi with rfl | rfl <;> omega)
                  have hz4 := (hTr.trans hT4).size
                  clear hot RC2
                  go_wp2_with (at_builtin; refine wpList_append_sl elemI rfl _ _ rfl D q ct (i64s told) rfl (hot4.alloc _) (some ⟨w4.heap.size, 0, none⟩) 1 1 [.int .i64 xx] rfl (Sl.new _ #[.int .i64 xx] _) (by simp) (by simp [Value.oneCell']) (by omega) (by omega) (by simp; omega) ?_; intro A' c' w5 hown1 hg hlie)
                  go_roundw
                  case rel => exact ⟨q + 1, by omega, by go_num, A', c', told ++ [xx], rfl, Lib.hid (by simp [HTL.out]), by simpa [i64s] using hown1, each_more (hot4.alloc _) hg hlie (d4.alloc _) (R4.alloc _) (by omega) (by omega) (by omega) HB5 hc0 hb3 hb4 hc1, ((hTr.trans hT4).alloc (.cells #[.int .i64 xx] 3)).andThen (Turn.of_grown (S := D.toList.map (·.block)) hg (by intro k hk; cases D <;> simp_all)) (by intro i hi; exact .inr (own_lo hot4 hi))⟩
                  case measure => simp [intOf]; omega
                | true => simp at hb1
              · have Tc := Tb.andThen hTr (by intro i hi; simp at hi; rcases hi with rfl | rfl <;> exact .inr (by omega))
                clear hTr hot
                obtain ⟨wc, rfl⟩ : ∃ wo : World, wo = wr := ⟨_, rfl⟩
                go_wp2_with fail
                go_loop [17] (fun i => i = .int .i64 0) (fun _ => 0)
                case atStart => rfl
                case round =>
                  subst hrel
                  go_wp2_with fail
                  refine (known_c _).mono ?_
                  rintro e w4 ⟨rfl, hT4⟩
                  go_wp2_with fail
                  go_ret
                  exact ⟨by simp, Tc.trans hT4⟩
          · have hm0i : (0 : Int) < (m : Int) := by omega
            go_wp2_with fail
            go_loopw [13, 14] (fun o i wc => ∃ k : Nat, k ≤ 40 ∧ i = .int .i64 k ∧ ∃ C ct told, o = .slice C k ct ∧ Hid (told.length = k) ∧ wc.ownsRow wb.heap.size 3 1 (.slice C k ct) k (i64s told) ∧ (∃ s ord cnt, Blk wc w.heap.size 56 #[.int .u64 s] ∧ RIs wc (FreeOf (w.heap.size + 2) C) (w.heap.size + 1) ord cnt ∧ 0 ≤ cnt ∧ cnt ≤ 7 + k ∧ Hid (Y ≠ [] → Rounded (onceL Y) (told ++ ord.filter (· ∈ Y)))) ∧ Turn [w.heap.size, w.heap.size + 1] wb wc) (fun _ i _ => 40 - (intOf i).toNat)
            case atStart => exact ⟨0, by omega, rfl, none, 0, [], rfl, Lib.hid rfl, hf0, ⟨s, ord, cnt, db2, rb2, by omega, by omega, Lib.hid fun _ => HST.out⟩, Turn.refl _ _⟩
            case round =>
              obtain ⟨q, hq, rfl, D, ct, told, rfl, HTL, hot, ⟨s, ord, cnt, db, rb, hc0, hc1, HR⟩, hTr⟩ := hrel
              by_cases hq40 : q < 40
              · have RC := Lib.hid (rnext_c w.heap.size (w.heap.size + 1) (FreeOf (w.heap.size + 2) D) s cnt ord Y B2 ny e2 wr db rb (FreeOf.not (by omega)) (FreeOf.all hot (by have := hTr.size; omega)) (by omega) (sb.turn hTr f2) f2 YN.out (by omega) hc0 (by omega))
                have hCm : ∀ (wz : World) (y : Int), Turn [w.heap.size, w.heap.size + 1] wr wz → Calls Try.prog 10 #[.slice C m cb, .int .i64 y] wz fun e w' => e = .returned (.bool (decide (y ∈ onceL Y))) ∧ wz = w' := fun wz y hT => in_c C m cb (onceL Y) y wz ((si.turn hTr fi).turn hT fi) HM.out (by omega)
                have HCm := Lib.hid hCm
                clear hCm
                have hb0 := hTr.size
                have HB : Hid ((rnext Y s ord cnt).1.isSome = decide (0 < m) ∧ ((rnext Y s ord cnt).1.isSome = true → decide ((rnext Y s ord cnt).1.getD 0 ∈ onceL Y) = true) ∧ cnt ≤ (rnext Y s ord cnt).2.2.2 ∧ (rnext Y s ord cnt).2.2.2 ≤ cnt + 1 ∧ (Y ≠ [] → Rounded (onceL Y) ((told ++ [(rnext Y s ord cnt).1.getD 0]) ++ (rnext Y s ord cnt).2.2.1.filter (· ∈ Y)))) := each_round HM.out HR.out
                generalize rnext Y s ord cnt = z at *
                obtain ⟨z1, zs, zo, zc⟩ := z
                simp only at HB
                obtain ⟨hb1, hb2, hb3, hb4, hb5⟩ := HB.out
                generalize hbx : z1.isSome = bb at *
                generalize hvx : z1.getD 0 = xx at *
                have HB5 := Lib.hid hb5
                have RC2 : Hid (Calls Try.prog 9 #[.pointer (some ⟨w.heap.size + 1, 0, none⟩), .pointer (some ⟨w.heap.size, 0, none⟩), .slice B2 ny e2] wr fun e w' => e = .returned (.tuple #[.int .i64 xx, .bool bb]) ∧ Blk w' w.heap.size 56 #[.int .u64 zs] ∧ RIs w' (FreeOf (w.heap.size + 2) D) (w.heap.size + 1) zo zc ∧ Turn [w.heap.size, w.heap.size + 1] wr w') := by
                  refine Lib.hid (RC.out.mono ?_)
                  rintro e w' ⟨h1, h2, h3, h4⟩
                  simp only [hbx, hvx] at h1
                  exact ⟨h1, h2, h3, h4⟩
                clear RC HB hb5 hbx hvx
                cases bb with
                | false => exact absurd hm0 (by simpa using hb1.symm)
                | true =>
                  have hb2' := Lib.hid (hb2 rfl)
                  clear hb1 hb2
                  go_wp2_with fail
                  refine RC2.out.mono ?_
                  rintro e w4 ⟨rfl, d4, R4, hT4⟩
                  go_wp2_with fail
                  refine (HCm.out w4 xx hT4).mono ?_
                  rw [hb2'.out]
                  rintro e w5 ⟨rfl, rfl⟩
                  have hot4 := own_turn hot hT4 (by intro i hi; simp at hi; rcases hi with rfl | rfl <;> omega)
                  have hz4 := (hTr.trans hT4).size
                  clear hot RC2 HCm
                  go_wp2_with (at_builtin; refine wpList_append_sl elemI rfl _ _ rfl D q ct (i64s told) rfl (hot4.alloc _) (some ⟨w4.heap.size, 0, none⟩) 1 1 [.int .i64 xx] rfl (Sl.new _ #[.int .i64 xx] _) (by simp) (by simp [Value.oneCell']) (by omega) (by omega) (by simp; omega) ?_; intro A' c' w5 hown1 hg hlie)
                  go_roundw
                  case rel => exact ⟨q + 1, by omega, by go_num, A', c', told ++ [xx], rfl, Lib.hid (by simp [HTL.out]), by simpa [i64s] using hown1, each_more (hot4.alloc _) hg hlie (d4.alloc _) (R4.alloc _) (by omega) (by omega) (by omega) HB5 hc0 hb3 hb4 hc1, ((hTr.trans hT4).alloc (.cells #[.int .i64 xx] 3)).andThen (Turn.of_grown (S := D.toList.map (·.block)) hg (by intro k hk; cases D <;> simp_all)) (by intro i hi; exact .inr (own_lo hot4 hi))⟩
                  case measure => simp [intOf]; omega
              · obtain rfl : q = 40 := by omega
                have Tc := Tb.andThen hTr (by intro i hi; simp at hi; rcases hi with rfl | rfl <;> exact .inr (by omega))
                have sids := si.turn hTr fi
                have stold := Sl.of_own hot
                have HW := Lib.hid (fun (i k : Nat) (hk : k < m) (hi : i + 2 * m ≤ 40) => each_window (Y := Y) HM.out HTL.out (HR.out) hk hi)
                obtain ⟨ct40, ctm⟩ := own_caps hot
                clear hTr hot HR rb db sb
                obtain ⟨wc, rfl⟩ : ∃ wo : World, wo = wr := ⟨_, rfl⟩
                obtain ⟨iI, hiI, -, hsz, -⟩ := elemI.info
                have hww : Hid (∀ i : Nat, i ≤ 40 → IntKind.i64.wrap (2 * (m : Int)) = 2 * (m : Int) ∧ IntKind.i64.wrap ((i : Int) + 2 * (m : Int)) = (i : Int) + 2 * (m : Int) ∧ IntKind.i64.wrap ((i : Int) + 1) = (i : Int) + 1) := by
                  refine Lib.hid (fun i hi => ⟨?_, ?_, ?_⟩) <;> exact IntWalk.i64_in _ (by omega)
                go_wp2_with fail
                go_loopw [17] (fun i wd => ∃ k : Nat, k ≤ 40 ∧ i = .int .i64 k ∧ Turn [] wc wd) (fun i _ => 40 - (intOf i).toNat)
                case atStart => exact ⟨0, by omega, rfl, Turn.refl _ _⟩
                case round =>
                  obtain ⟨i, hi, rfl, hTd⟩ := hrel
                  obtain ⟨hw1, hw2, hw3⟩ := hww.out i hi
                  have hi0 : (0 : Int) ≤ (i : Int) := Int.natCast_nonneg _
                  by_cases h40 : i + 2 * m ≤ 40
                  · have h40i : (i : Int) + 2 * (m : Int) ≤ 40 := by omega
                    have h40c : (i : Int) + 2 * (m : Int) ≤ (ct : Int) := by omega
                    have h40l : (i : Int) ≤ (i : Int) + 2 * (m : Int) := by omega
                    obtain ⟨wd, rfl⟩ : ∃ wo : World, wo = wr := ⟨_, rfl⟩
                    have MT : ∀ w, (Instr.slice 23 (.slice D 40 ct) (some (.int .i64 (i : Int))) (some (.int .i64 ((i : Int) + 2 * (m : Int)))) none).run Try.prog w = .ok (.slice (midA D ct i) (2 * m) (ct - i)) w := by
                      intro w
                      have := run_slice_mid (P := Try.prog) Try.underlying23 hiI hsz w D 40 ct .i64 .i64 (i : Int) ((i : Int) + 2 * (m : Int)) hi0 h40l h40c
                      rw [show ((i : Int)).toNat = i by omega, show ((i : Int) + 2 * (m : Int)).toNat - i = 2 * m by omega] at this
                      exact this
                    go_wp2_with fail
                    go_loopw [18] (fun k wf => ∃ j : Nat, j ≤ m ∧ k = .int .i64 j ∧ Turn [] wd wf) (fun k _ => m - (intOf k).toNat)
                    case atStart => exact ⟨0, by omega, rfl, Turn.refl _ _⟩
                    case round =>
                      obtain ⟨j, hj, rfl, hTf⟩ := hrel
                      by_cases hjm : j < m
                      · obtain ⟨x, hx1, hx2⟩ := HW.out i j hjm h40
                        obtain ⟨jl, hjx⟩ := List.getElem?_eq_some_iff.1 hx1
                        have sids2 := (sids.turn0 hTd).turn0 hTf
                        have stold2 := (stold.turn0 hTd).turn0 hTf
                        obtain ⟨b1, o1, rfl, l1, cc1⟩ := i64s_at sids2 jl
                        rw [hjx] at cc1
                        have INC : Hid (∀ nq : Nat, Calls Try.prog 10 #[.slice (midA D ct i) (2 * m) (ct - i), .int .i64 x] (wr.drewN nq) fun e w' => e = .returned (.bool true) ∧ w' = wr.drewN nq) := by
                          refine Lib.hid (fun nq => ?_)
                          have hs := (stold2.mid (c := ct) (l := i) (m := 2 * m) (by rw [i64s_len, HTL.out]; exact ct40)).turn0 ((Turn.refl [] wr).drewN nq)
                          have := in_c (midA D ct i) (2 * m) (ct - i) ((told.drop i).take (2 * m)) x (wr.drewN nq) (by simpa [i64s, List.map_take, List.map_drop] using hs) (by simp [HTL.out]; omega) (by omega)
                          rw [hx2] at this
                          exact this.mono fun _ _ h => ⟨h.1, h.2.symm⟩
                        have j0 : (0 : Int) ≤ (j : Int) := Int.natCast_nonneg _
                        have j1 : (j : Int) < (m : Int) := by omega
                        clear hx1 hx2 hjx jl
                        go_wp2_with fail
                        go_quiet (first | (go_at_call 10; refine Calls.quiet_of_same (INC.out _)))
                        go_wp2_with fail
                        go_roundw
                        case rel => exact ⟨j + 1, by omega, by go_num, hTf.drewN _⟩
                        case measure => simp [intOf]; omega
                      · go_wp2_with fail
                        go_roundw
                        case rel => exact ⟨i + 1, by omega, by go_num, hTd.trans hTf⟩
                        case measure => simp [intOf]; omega
                  · have h40i : ¬ (i : Int) + 2 * (m : Int) ≤ 40 := by omega
                    go_wp2_with fail
                    refine (known_c _).mono ?_
                    rintro e w4 ⟨rfl, hT4⟩
                    go_wp2_with fail
                    go_ret
                    exact ⟨by simp, (Tc.trans hTd).trans hT4⟩
end Go.Proofs.Ytibepkipbmfonaa
