/- The walk of ViewPlays. -/
import Derived.Test.YtelagneielahhaaVwPlaysP
namespace Go.Proofs.Ytelagneielahhaa
open Go.RowKit Go.ChangeMaps Go.MapKept

/-- At the head of a round. -/
def PlInv (w : World) (v mb s r o : Nat) (own : C4) (wr : World) : Prop := ∃ A n cc G G' m, PlRel w v mb s r o own A n cc G G' m m wr ∧ EnOk m ∧ ∀ j, j < 4 → (G' j).xs = (G j).xs
theorem alloc_size1 (w : World) (o : Obj) : (w.alloc o).heap.size = w.heap.size + 1 := by simp
theorem catL_eq {ls ls' : Nat → List Int} : ∀ {k : Nat}, (∀ j, j < k → ls j = ls' j) → catL ls k = catL ls' k
  | 0, _ => rfl
  | k + 1, h => by
    rw [catL, catL, catL_eq (fun j hj => h j (by omega)), h k (by omega)]
set_option maxRecDepth 100000 in
set_option maxHeartbeats 16000000 in
theorem vplays_walk (o1 o2 o3 o4 : Int) (A0 : Option Addr) (len cap0 : Nat) (F : Nat → Nat → Int) (c1 c2 c3 c4 : Int) (w : World) (hR : Rows w A0 len 7 F) (hlen : len ≤ maxLen) (wfc : (Lit.int .i64 c1).wf = true) :
    Calls Try.prog 6 #[.agg #[.int .i64 o1, .int .i64 o2, .int .i64 o3, .int .i64 o4], .slice A0 len cap0, .agg #[.int .i64 c1, .int .i64 c2, .int .i64 c3, .int .i64 c4]] w fun e w' => e = .returned (.bool true) ∧ Turn [] w w' := by
  have KC := Lib.hid (fun wz => known_c wz)
  have RC := Lib.hid (fun wz => rRight5_c o1 o2 o3 o4 wz)
  have TC := Lib.hid (fun wz => to_c o1 o2 o3 o4 wz)
  unfold maxLen at hlen
  have HR := Lib.hid hR
  have HWF := Lib.hid wfc
  clear hR wfc
  have T0 : Turn [] w ((w.alloc (.cells #[.int .i64 o1, .int .i64 o2, .int .i64 o3, .int .i64 o4] 30)).alloc (.cells #[.int .i64 c1, .int .i64 c2, .int .i64 c3, .int .i64 c4] 30)) := ((Turn.refl [] w).alloc _).alloc _
  have BO : Blk ((w.alloc (.cells #[.int .i64 o1, .int .i64 o2, .int .i64 o3, .int .i64 o4] 30)).alloc (.cells #[.int .i64 c1, .int .i64 c2, .int .i64 c3, .int .i64 c4] 30)) w.heap.size 30 #[.int .i64 o1, .int .i64 o2, .int .i64 o3, .int .i64 o4] := (Blk.new w 30 #[.int .i64 o1, .int .i64 o2, .int .i64 o3, .int .i64 o4]).alloc _
  have BC : Blk ((w.alloc (.cells #[.int .i64 o1, .int .i64 o2, .int .i64 o3, .int .i64 o4] 30)).alloc (.cells #[.int .i64 c1, .int .i64 c2, .int .i64 c3, .int .i64 c4] 30)) (w.heap.size + 1) 30 #[.int .i64 c1, .int .i64 c2, .int .i64 c3, .int .i64 c4] := by
    have := Blk.new (w.alloc (.cells #[.int .i64 o1, .int .i64 o2, .int .i64 o3, .int .i64 o4] 30)) 30 #[.int .i64 c1, .int .i64 c2, .int .i64 c3, .int .i64 c4]
    simpa using this
  obtain ⟨w0, hw0⟩ : ∃ w0 : World, w0 = ((w.alloc (.cells #[.int .i64 o1, .int .i64 o2, .int .i64 o3, .int .i64 o4] 30)).alloc (.cells #[.int .i64 c1, .int .i64 c2, .int .i64 c3, .int .i64 c4] 30)) := ⟨_, rfl⟩
  rw [← hw0] at T0 BO BC
  have HW0 := Lib.hid hw0
  have HT0 := Lib.hid T0
  have HBO := Lib.hid BO
  have HBC := Lib.hid BC
  clear hw0 T0 BO BC
  by_cases hr : Right (o1, o2, o3, o4)
  · rw [decide_eq_true hr] at RC
    have NV := Lib.hid (fun wz => newV_c o1 o2 o3 o4 wz hr)
    go_enter Try.func6, Try.ntmps6
    go_wp2_with fail
    rw [← HW0.out]
    refine (TC.out _).mono ?_
    rintro e w1 ⟨rfl, hT1⟩
    go_wp2_with fail
    refine (NV.out _).mono ?_
    rintro e w2 ⟨v, mb, rfl, V2, hv2, hb2, hT2⟩
    have T2 := (hT1.trans hT2)
    have B2 := T2.blk HBO.out (by simp)
    have b0 := B2.cell 0
    have b1 := B2.cell 1
    have b2 := B2.cell 2
    have b3 := B2.cell 3
    have bl := B2.lt
    go_wp2_with fail
    refine (RC.out _).mono ?_
    rintro e w3 ⟨rfl, hT3⟩
    clear b0 b1 b2 b3 bl B2
    have T3 := T2.trans hT3
    have B3 := T3.blk HBO.out (by simp)
    have b0 := B3.cell 0
    have b1 := B3.cell 1
    have b2 := B3.cell 2
    have b3 := B3.cell 3
    have bl := B3.lt
    go_wp2_with fail
    refine (newS_c _).mono ?_
    rintro e w4 ⟨s, rfl, S4, hs4, hT4⟩
    have HR5 : Hid (PlInv w0 v mb s w3.heap.size w4.heap.size (o1, o2, o3, o4) (w4.alloc (.cells #[.slice none 0 0, .slice none 0 0, .slice none 0 0, .slice none 0 0] 67))) := by
      have z1 := hT1.size
      have z2 := hT2.size
      have z3 := hT3.size
      have z4 := hT4.size
      have l2 := V2.lts
      have vne := V2.ne
      have ls4 := S4.blk.lt
      simp only [alloc_size1] at z4 hs4
      have T34 : Turn [] w3 w4 := ((Turn.refl [] w3).alloc _).trans hT4
      have BR : Blk w4 w3.heap.size 63 #[.int .i64 o1, .int .i64 o2, .int .i64 o3, .int .i64 o4, .slice none 0 0] := hT4.blk (Blk.new _ _ _) (by simp)
      refine ⟨none, 0, 0, fun _ => ⟨none, 0, 0, []⟩, fun _ => ⟨none, 0, 0, []⟩, [], ⟨(V2.turn hT3 (by simp) (by simp)).turn (T34.alloc _) (by simp) (by simp), ⟨BR.alloc _, w3.heap.size + 1, by omega, by simp [ecs]; exact World.ownsRow_nil _ _ _ _⟩, S4.turn0 ((Turn.refl [] w4).alloc _), ⟨Blk.new _ _ _, fun j hj => ⟨by simp [i64s]; exact Sl.nil _ _, by simp, by simp, by simp [blks]⟩⟩, by omega, by omega, by simp [blks], by simp [blks], by simp [blks], (T3.trans T34).alloc _⟩, ⟨VOk.nil, by intro p hp; simp at hp⟩, fun _ _ => rfl⟩
    clear V2 hT1 hT2 T2 hT3 T3 B3 b0 b1 b2 b3 bl S4 hT4 hv2 hb2 hs4 NV RC TC
    go_upto_block 0 with fail
    generalize w4.alloc (.cells #[.slice none 0 0, .slice none 0 0, .slice none 0 0, .slice none 0 0] 67) = w5 at *
    generalize w4.heap.size = o at *
    generalize w3.heap.size = r at *
    go_cut [12] (fun _ wc => PlInv w0 v mb s r o (o1, o2, o3, o4) wc)
    case first =>
      go_wp2_with fail
      go_loopw [12] (fun ix wr => ∃ i : Nat, i ≤ len ∧ i ≤ 60 ∧ ix = .int .i64 ((i : Nat) : Int) ∧ PlInv w0 v mb s r o (o1, o2, o3, o4) wr) (fun ix _ => 60 - (intOf ix).toNat)
      case atStart => exact ⟨0, by omega, by omega, rfl, HR5.out⟩
      case round =>
        obtain ⟨i, hi, hi60, rfl, A, n, cc, G, G', m, R, hen, hsame⟩ := hrel
        obtain ⟨wx, rfl⟩ : ∃ wo : World, wo = wr := ⟨_, rfl⟩
        have i0 : (0 : Int) ≤ (i : Int) := Int.natCast_nonneg _
        by_cases hgo : i < len ∧ i < 60
        · obtain ⟨hlt, hlt60⟩ := hgo
          have i1 : (i : Int) < (len : Int) := by omega
          have i2 : (i : Int) < 60 := by omega
          obtain ⟨bl, off, rfl, hbl, hcell⟩ := HR.out (by omega)
          have TW := HT0.out.trans R.turn
          have q0 := (TW.cell (p := ⟨bl, off + i * 7, none⟩) hbl (by simp)).trans (hcell i hlt 0 (by omega)).1
          have q1 := (TW.cell (p := ⟨bl, off + i * 7 + 1, none⟩) hbl (by simp)).trans (hcell i hlt 1 (by omega)).1
          have q2 := (TW.cell (p := ⟨bl, off + i * 7 + 2, none⟩) hbl (by simp)).trans (hcell i hlt 2 (by omega)).1
          have q3 := (TW.cell (p := ⟨bl, off + i * 7 + 3, none⟩) hbl (by simp)).trans (hcell i hlt 3 (by omega)).1
          have q4 := (TW.cell (p := ⟨bl, off + i * 7 + 4, none⟩) hbl (by simp)).trans (hcell i hlt 4 (by omega)).1
          have q5 := (TW.cell (p := ⟨bl, off + i * 7 + 5, none⟩) hbl (by simp)).trans (hcell i hlt 5 (by omega)).1
          have q6 := (TW.cell (p := ⟨bl, off + i * 7 + 6, none⟩) hbl (by simp)).trans (hcell i hlt 6 (by omega)).1
          have wf3 := Lib.hid (hcell i hlt 3 (by omega)).2
          have hb3 := Nat.lt_of_lt_of_le hbl TW.size
          have RR := Lib.hid R
          have HEN := Lib.hid hen
          have HSA := Lib.hid hsame
          clear hcell TW R hen hsame HR5
          generalize F i 0 = f0 at *
          generalize F i 1 = f1 at *
          generalize F i 2 = f2 at *
          generalize F i 3 = f3 at *
          generalize F i 4 = f4 at *
          generalize F i 5 = f5 at *
          generalize F i 6 = f6 at *
          go_wp2_with fail
          refine (to_c f3 f4 f5 f6 _).mono ?_
          rintro e w6 ⟨rfl, hT6⟩
          have TA : Turn [] wx w6 := ((Turn.refl [] wx).alloc _).trans hT6
          have BA : Blk w6 wx.heap.size 55 #[.int .i64 f0, .int .i64 f1, .int .i64 f2, .int .i64 f3, .int .i64 f4, .int .i64 f5, .int .i64 f6] := hT6.blk (Blk.new _ _ _) (by simp)
          have HTA := Lib.hid TA
          have HBA := Lib.hid BA
          have a0 := BA.cell 0
          have al := BA.lt
          clear q0 q1 q2 q3 q4 q5 q6 hT6 TA BA
          go_upto_block 2 with fail
          have htk := umod_range f1 1073741825 (by omega) (by omega)
          have HT7 := Lib.hid (HTA.out.alloc (.cells #[.int .i64 f3, .int .i64 f4, .int .i64 f5, .int .i64 f6] 29))
          have HBA7 := Lib.hid (HBA.out.alloc (.cells #[.int .i64 f3, .int .i64 f4, .int .i64 f5, .int .i64 f6] 29))
          have HBX7 := Lib.hid (Blk.new w6 29 #[.int .i64 f3, .int .i64 f4, .int .i64 f5, .int .i64 f6])
          generalize w6.alloc (.cells #[.int .i64 f3, .int .i64 f4, .int .i64 f5, .int .i64 f6] 29) = w7 at *
          generalize w6.heap.size = xb at *
          generalize wrap64 ((IntKind.u64.wrap f1).tmod 1073741825) = tt at *
          have R7 := Lib.hid (RR.out.turn0 HT7.out)
          have hxb : wx.heap.size < xb := al
          have xlt := HBX7.out.lt
          have NB : Hid (∀ b, wx.heap.size ≤ b → b ∉ r :: mb :: s :: o :: blks A) := fun b hb hm => by
            have h1 := RR.out.lts
            simp only [List.mem_cons] at hm
            rcases hm with h2 | h2 | h2 | h2 | h2
            · omega
            · omega
            · omega
            · omega
            · have := (RR.out.ref.blks_ok b h2).1
              omega
          clear a0 al RR
          have hkr : 0 ≤ (IntKind.u64.wrap f0).tmod 7 ∧ (IntKind.u64.wrap f0).tmod 7 < 7 := by
            have h2 : 0 ≤ IntKind.u64.wrap f0 := by rw [IntKind.wrap_u64]; omega
            rw [Int.tmod_eq_emod_of_nonneg h2]
            omega
          generalize (IntKind.u64.wrap f0).tmod 7 = kd at *
          go_cut [16, 17] (fun x y wc => ∃ ra : Int, x = .int .i64 ra ∧ y = .int .i64 ra ∧ Small ra ∧ PlInv w0 v mb s r o (o1, o2, o3, o4) wc)
          case first =>
            have hkk : kd = 0 ∨ kd = 1 ∨ kd = 2 ∨ kd = 3 ∨ kd = 4 ∨ kd = 5 ∨ kd = 6 := by omega
            clear hkr
            have TD : Turn [] w7 w7.drew := (Turn.refl [] w7).drew
            have TDm : Turn (r :: mb :: s :: o :: blks A) w7 w7.drew := TD.mono (by simp)
            have nbx := NB.out wx.heap.size (Nat.le_refl _)
            have nbb := NB.out xb (by omega)
            have AE : ∀ wy, Turn (r :: mb :: s :: o :: blks A) w7 wy → (wy.cell? ⟨wx.heap.size, 2, none⟩ = some (.int .i64 f2) ∧ wy.cell? ⟨wx.heap.size, 3, none⟩ = some (.int .i64 f3) ∧ wy.cell? ⟨wx.heap.size, 4, none⟩ = some (.int .i64 f4) ∧ wy.cell? ⟨wx.heap.size, 5, none⟩ = some (.int .i64 f5) ∧ wy.cell? ⟨wx.heap.size, 6, none⟩ = some (.int .i64 f6) ∧ wy.cell? ⟨xb, 0, none⟩ = some (.int .i64 f3) ∧ wy.cell? ⟨xb, 1, none⟩ = some (.int .i64 f4) ∧ wy.cell? ⟨xb, 2, none⟩ = some (.int .i64 f5) ∧ wy.cell? ⟨xb, 3, none⟩ = some (.int .i64 f6) ∧ Turn (r :: mb :: s :: o :: blks A) w7 wy) := fun wy hy =>
              have BA := hy.blk HBA7.out nbx
              have BX := hy.blk HBX7.out nbb
              ⟨BA.cell 2, BA.cell 3, BA.cell 4, BA.cell 5, BA.cell 6, BX.cell 0, BX.cell 1, BX.cell 2, BX.cell 3, hy⟩
            clear nbx nbb
            have a0 := HBA7.out.cell 0
            have a1 := HBA7.out.cell 1
            have a2 := HBA7.out.cell 2
            have a3 := HBA7.out.cell 3
            have a4 := HBA7.out.cell 4
            have a5 := HBA7.out.cell 5
            have a6 := HBA7.out.cell 6
            have al := HBA7.out.lt
            have x0 := HBX7.out.cell 0
            have x1 := HBX7.out.cell 1
            have x2 := HBX7.out.cell 2
            have x3 := HBX7.out.cell 3
            have hn16 : n ≤ 16 := by
              have h1 := R7.out.ref.len
              have h2 := R7.out.view.le
              omega
            rcases hkk with rfl | rfl | rfl | rfl | rfl | rfl | rfl
            · have RA := Lib.hid (fun wz (hz : Turn [] w7 wz) => rAdd_c (R7.out.turn0 hz).ref HEN.out.1 R7.out.view.rises hn16 f3 f4 f5 f6 tt)
              go_wp2_with fail
              go_region_held3 (fun w' => w'.cell? ⟨wx.heap.size, 2, none⟩ = some (.int .i64 f2) ∧ w'.cell? ⟨wx.heap.size, 3, none⟩ = some (.int .i64 f3) ∧ w'.cell? ⟨wx.heap.size, 4, none⟩ = some (.int .i64 f4) ∧ w'.cell? ⟨wx.heap.size, 5, none⟩ = some (.int .i64 f5) ∧ w'.cell? ⟨wx.heap.size, 6, none⟩ = some (.int .i64 f6) ∧ w'.cell? ⟨xb, 0, none⟩ = some (.int .i64 f3) ∧ w'.cell? ⟨xb, 1, none⟩ = some (.int .i64 f4) ∧ w'.cell? ⟨xb, 2, none⟩ = some (.int .i64 f5) ∧ w'.cell? ⟨xb, 3, none⟩ = some (.int .i64 f6) ∧ Turn (r :: mb :: s :: o :: blks A) w7 w') (first | with_reducible exact AE _ TDm | with_reducible exact AE _ T8 | with_reducible exact AE _ T9)
                (first
                  | (go_at_call 27; refine (RA.out _ TD).mono ?_; rintro e w8 ⟨A', n', c', rfl, h8, hb8, hT8⟩; have R8 := Lib.hid ((R7.out.turn0 TD).ref' h8 hb8 hT8); have T8 : Turn (r :: mb :: s :: o :: blks A) w7 w8 := TDm.trans (hT8.mono (by intro x hx; simp at hx ⊢; rcases hx with h | h <;> simp [h])))
                  | (go_at_call 9; refine (addV_c R8.out.view f3 f4 f5 f6 tt).mono ?_; rintro e w9 ⟨rfl, V9, hT9⟩; have R9 := Lib.hid (R8.out.view' V9 hT9); have T9 : Turn (r :: mb :: s :: o :: blks A) w7 w9 := T8.trans (hT9.mono (by simp))))
              go_wp2_with fail
              go_meet
              case rel => exact ⟨_, rfl, rfl, addR_sm _ _ _ _, _, _, _, G, G', _, R9.out, addR_en HEN.out R7.out.view.rises _ _, HSA.out⟩
            · have RA := Lib.hid (fun wz (hz : Turn [] w7 wz) => rHear_c (R7.out.turn0 hz).ref HEN.out.1 R7.out.view.rises (by omega) f3 f4 f5 f6 tt)
              go_wp2_with fail
              go_region_held3 (fun w' => w'.cell? ⟨wx.heap.size, 2, none⟩ = some (.int .i64 f2) ∧ w'.cell? ⟨wx.heap.size, 3, none⟩ = some (.int .i64 f3) ∧ w'.cell? ⟨wx.heap.size, 4, none⟩ = some (.int .i64 f4) ∧ w'.cell? ⟨wx.heap.size, 5, none⟩ = some (.int .i64 f5) ∧ w'.cell? ⟨wx.heap.size, 6, none⟩ = some (.int .i64 f6) ∧ w'.cell? ⟨xb, 0, none⟩ = some (.int .i64 f3) ∧ w'.cell? ⟨xb, 1, none⟩ = some (.int .i64 f4) ∧ w'.cell? ⟨xb, 2, none⟩ = some (.int .i64 f5) ∧ w'.cell? ⟨xb, 3, none⟩ = some (.int .i64 f6) ∧ Turn (r :: mb :: s :: o :: blks A) w7 w') (first | with_reducible exact AE _ TDm | with_reducible exact AE _ T8 | with_reducible exact AE _ T9)
                (first
                  | (go_at_call 28; refine (RA.out _ TD).mono ?_; rintro e w8 ⟨rfl, h8, hT8⟩; have R8 := Lib.hid ((R7.out.turn0 TD).ref' h8 (fun x hx => .inl hx) (hT8.mono (by intro x hx; simp [hx]))); have T8 : Turn (r :: mb :: s :: o :: blks A) w7 w8 := TDm.trans (hT8.mono (by intro x hx; simp [hx])))
                  | (go_at_call 13; refine (hearV_c R8.out.view f3 f4 f5 f6 tt wf3.out).mono ?_; rintro e w9 ⟨rfl, V9, hT9⟩; have R9 := Lib.hid (R8.out.view' V9 hT9); have T9 : Turn (r :: mb :: s :: o :: blks A) w7 w9 := T8.trans (hT9.mono (by simp))))
              go_wp2_with fail
              go_meet
              case rel => exact ⟨_, rfl, rfl, hearR_sm _ _ _, _, _, _, G, G', _, R9.out, hearR_en HEN.out _ _, HSA.out⟩
            · have RA := Lib.hid (fun wz (hz : Turn [] w7 wz) => rDoubt_c (R7.out.turn0 hz).ref HEN.out.1 R7.out.view.rises (by omega) f3 tt)
              go_wp2_with fail
              go_region_held3 (fun w' => w'.cell? ⟨wx.heap.size, 2, none⟩ = some (.int .i64 f2) ∧ w'.cell? ⟨wx.heap.size, 3, none⟩ = some (.int .i64 f3) ∧ w'.cell? ⟨wx.heap.size, 4, none⟩ = some (.int .i64 f4) ∧ w'.cell? ⟨wx.heap.size, 5, none⟩ = some (.int .i64 f5) ∧ w'.cell? ⟨wx.heap.size, 6, none⟩ = some (.int .i64 f6) ∧ w'.cell? ⟨xb, 0, none⟩ = some (.int .i64 f3) ∧ w'.cell? ⟨xb, 1, none⟩ = some (.int .i64 f4) ∧ w'.cell? ⟨xb, 2, none⟩ = some (.int .i64 f5) ∧ w'.cell? ⟨xb, 3, none⟩ = some (.int .i64 f6) ∧ Turn (r :: mb :: s :: o :: blks A) w7 w') (first | with_reducible exact AE _ TDm | with_reducible exact AE _ T8 | with_reducible exact AE _ T9)
                (first
                  | (go_at_call 29; refine (RA.out _ TD).mono ?_; rintro e w8 ⟨rfl, h8, hT8⟩; have R8 := Lib.hid ((R7.out.turn0 TD).ref' h8 (fun x hx => .inl hx) (hT8.mono (by intro x hx; simp [hx]))); have T8 : Turn (r :: mb :: s :: o :: blks A) w7 w8 := TDm.trans (hT8.mono (by intro x hx; simp [hx])))
                  | (go_at_call 14; refine (doubtV_c R8.out.view f3 tt wf3.out).mono ?_; rintro e w9 ⟨rfl, V9, hT9⟩; have R9 := Lib.hid (R8.out.view' V9 hT9); have T9 : Turn (r :: mb :: s :: o :: blks A) w7 w9 := T8.trans (hT9.mono (by simp))))
              go_wp2_with fail
              go_meet
              case rel => exact ⟨_, rfl, rfl, doubtR_sm _ _ _, _, _, _, G, G', _, R9.out, doubtR_en HEN.out _ _ htk.1 (by omega), HSA.out⟩
            · have RA := Lib.hid (fun wz (hz : Turn [] w7 wz) => rNote_c (R7.out.turn0 hz).ref HEN.out.1 R7.out.view.rises (by omega) f3 f2)
              go_wp2_with fail
              go_region_held3 (fun w' => w'.cell? ⟨wx.heap.size, 2, none⟩ = some (.int .i64 f2) ∧ w'.cell? ⟨wx.heap.size, 3, none⟩ = some (.int .i64 f3) ∧ w'.cell? ⟨wx.heap.size, 4, none⟩ = some (.int .i64 f4) ∧ w'.cell? ⟨wx.heap.size, 5, none⟩ = some (.int .i64 f5) ∧ w'.cell? ⟨wx.heap.size, 6, none⟩ = some (.int .i64 f6) ∧ w'.cell? ⟨xb, 0, none⟩ = some (.int .i64 f3) ∧ w'.cell? ⟨xb, 1, none⟩ = some (.int .i64 f4) ∧ w'.cell? ⟨xb, 2, none⟩ = some (.int .i64 f5) ∧ w'.cell? ⟨xb, 3, none⟩ = some (.int .i64 f6) ∧ Turn (r :: mb :: s :: o :: blks A) w7 w') (first | with_reducible exact AE _ TDm | with_reducible exact AE _ T8 | with_reducible exact AE _ T9)
                (first
                  | (go_at_call 30; refine (RA.out _ TD).mono ?_; rintro e w8 ⟨rfl, h8, hT8⟩; have R8 := Lib.hid ((R7.out.turn0 TD).ref' h8 (fun x hx => .inl hx) (hT8.mono (by intro x hx; simp [hx]))); have T8 : Turn (r :: mb :: s :: o :: blks A) w7 w8 := TDm.trans (hT8.mono (by intro x hx; simp [hx])))
                  | (go_at_call 15; refine (noteV_c R8.out.view f3 f2 wf3.out).mono ?_; rintro e w9 ⟨rfl, V9, hT9⟩; have R9 := Lib.hid (R8.out.view' V9 hT9); have T9 : Turn (r :: mb :: s :: o :: blks A) w7 w9 := T8.trans (hT9.mono (by simp))))
              go_wp2_with fail
              go_meet
              case rel => exact ⟨_, rfl, rfl, noteR_sm _ _ _, _, _, _, G, G', _, R9.out, noteR_en HEN.out _ _, HSA.out⟩
            · have SV := Lib.hid (sweepV_c R7.out.view HEN.out.1 tt (some ⟨s, 0, none⟩) (fun i => (G i).xs) R7.out.set.logs htk.1 (by omega))
              have hcat : catL (fun i => (G' i).xs) 4 = catL (fun i => (G i).xs) 4 := catL_eq HSA.out
              have hmbl : mb < w7.heap.size ∧ r < w7.heap.size := ⟨R7.out.lts.2.1, R7.out.lts.2.2.2.1⟩
              go_wp2_with fail
              refine SV.out.mono ?_
              rintro e w8 ⟨D1, n1, k1, rfl, oD1, V8, hT8⟩
              have R8 := Lib.hid (R7.out.view' V8 hT8)
              have RS := rSweep_c R8.out.ref hn16 R8.out.rset tt htk.1 (by omega) HEN.out.2
              rw [hcat] at RS
              have HRS := Lib.hid RS
              clear RS hcat V8
              go_wp2_with fail
              refine HRS.out.mono ?_
              rintro e w9 ⟨D2, n2, k2, A', n', c', rfl, oD2, h9, hb9, hT9⟩
              have R9 := Lib.hid (R8.out.ref' h9 (fun x hx => .inr (hb9 x hx)) (hT9.mono (by simp)))
              have oD3 := own_turnA oD1 hT9 (fun x hx hm => by have := (own_ltA oD1 x hx).2; simp at hm; omega)
              have HEN9 := Lib.hid (filter_en HEN.out (fun q => !goneB tt (catL (fun i => (G i).xs) 4) q.2))
              obtain ⟨L, hL⟩ : ∃ L, L = suchL (goneB tt (catL (fun i => (G i).xs) 4)) (m.map (·.2)) := ⟨_, rfl⟩
              rw [← hL] at oD2 oD3
              have hl3 := oD3.1
              have hl2 := oD2.1
              rw [ccs_len] at hl3 hl2
              have hn12 : n2 = n1 := by omega
              have hn1L : L.length = n1 := by omega
              subst hn12
              have hLl : L.length ≤ 16 := by
                rw [hL]
                have h1 := suchL_len (goneB tt (catL (fun i => (G i).xs) 4)) (m.map (·.2))
                rw [List.length_map] at h1
                have := R7.out.view.le
                omega
              have HO2 := Lib.hid oD2
              have HO3 := Lib.hid oD3
              clear oD1 oD2 oD3 h9 hb9 hT9 hT8 hl3 hl2 hL x0 x1 x2 x3 a0 a1 a2 a3 a4 a5 a6 al
              go_wp2_with fail
              go_loopw [20] (fun kx wr => ∃ k : Nat, k ≤ n2 ∧ kx = .int .i64 ((k : Nat) : Int) ∧ Turn [] w9 wr) (fun kx _ => n2 - (intOf kx).toNat)
              case atStart => exact ⟨0, by omega, rfl, Turn.refl _ _⟩
              case round =>
                obtain ⟨k, hk, rfl, hT⟩ := hrel
                obtain ⟨wy, rfl⟩ : ∃ wo : World, wo = wr := ⟨_, rfl⟩
                have k0 : (0 : Int) ≤ (k : Int) := Int.natCast_nonneg _
                by_cases hlt2 : k < n2
                · have j1 : (k : Int) < (n2 : Int) := by omega
                  obtain ⟨b1, p1, rfl, l1, y0, y1, y2, y3⟩ := ccs_at ((Sl.of_own HO3.out).turn0 hT) (k := k) (by omega)
                  obtain ⟨b2, p2, rfl, l2, z0, z1, z2, z3⟩ := ccs_at ((Sl.of_own HO2.out).turn0 hT) (k := k) (by omega)
                  generalize L[k] = e4 at *
                  obtain ⟨e1, e2, e3, e4⟩ := e4
                  simp only at y0 y1 y2 y3 z0 z1 z2 z3
                  have AF : ∀ wz, Turn [] wy wz → (wz.cell? ⟨b1, p1 + k * 4, none⟩ = some (.int .i64 e1) ∧ wz.cell? ⟨b1, p1 + k * 4 + 1, none⟩ = some (.int .i64 e2) ∧ wz.cell? ⟨b1, p1 + k * 4 + 2, none⟩ = some (.int .i64 e3) ∧ wz.cell? ⟨b1, p1 + k * 4 + 3, none⟩ = some (.int .i64 e4) ∧ wz.cell? ⟨b2, p2 + k * 4, none⟩ = some (.int .i64 e1) ∧ wz.cell? ⟨b2, p2 + k * 4 + 1, none⟩ = some (.int .i64 e2) ∧ wz.cell? ⟨b2, p2 + k * 4 + 2, none⟩ = some (.int .i64 e3) ∧ wz.cell? ⟨b2, p2 + k * 4 + 3, none⟩ = some (.int .i64 e4) ∧ Turn [] wy wz) := fun wz hz =>
                    ⟨(hz.cell l1 (by simp)).trans y0, (hz.cell l1 (by simp)).trans y1, (hz.cell l1 (by simp)).trans y2, (hz.cell l1 (by simp)).trans y3, (hz.cell l2 (by simp)).trans z0, (hz.cell l2 (by simp)).trans z1, (hz.cell l2 (by simp)).trans z2, (hz.cell l2 (by simp)).trans z3, hz⟩
                  have TE : Turn [] wy wy.drew := (Turn.refl [] wy).drew
                  have OF := Lib.hid (of_c e1 e2 e3 e4 wy.drew)
                  go_wp2_with fail
                  go_region_held3 (fun w' => w'.cell? ⟨b1, p1 + k * 4, none⟩ = some (.int .i64 e1) ∧ w'.cell? ⟨b1, p1 + k * 4 + 1, none⟩ = some (.int .i64 e2) ∧ w'.cell? ⟨b1, p1 + k * 4 + 2, none⟩ = some (.int .i64 e3) ∧ w'.cell? ⟨b1, p1 + k * 4 + 3, none⟩ = some (.int .i64 e4) ∧ w'.cell? ⟨b2, p2 + k * 4, none⟩ = some (.int .i64 e1) ∧ w'.cell? ⟨b2, p2 + k * 4 + 1, none⟩ = some (.int .i64 e2) ∧ w'.cell? ⟨b2, p2 + k * 4 + 2, none⟩ = some (.int .i64 e3) ∧ w'.cell? ⟨b2, p2 + k * 4 + 3, none⟩ = some (.int .i64 e4) ∧ Turn [] wy w') (first | with_reducible exact AF _ TE | with_reducible exact AF _ T10)
                    ((go_at_call 32; refine OF.out.mono ?_; rintro e w10 ⟨rfl, hT10⟩; have T10 : Turn [] wy w10 := TE.trans hT10))
                  go_wp2_with fail
                  go_roundw
                  case rel => exact ⟨k + 1, by omega, by go_num, hT.trans T10⟩
                  case measure => simp [intOf]; omega
                · obtain rfl : k = n2 := by omega
                  have j1 : ¬ (k : Int) < (k : Int) := by omega
                  go_wp2_with fail
                  go_meet
                  case rel => exact ⟨0, rfl, rfl, by simp [Small], _, _, _, G, G', _, R9.out.turn0 hT, HEN9.out, HSA.out⟩
            · have TA : Turn [] w7 (w7.alloc (.cells #[.int .i64 f3, .int .i64 f3] 3)).drew := ((Turn.refl [] w7).alloc _).drew
              have TAm : Turn (r :: mb :: s :: o :: blks A) w7 (w7.alloc (.cells #[.int .i64 f3, .int .i64 f3] 3)).drew := TA.mono (by simp)
              obtain ⟨q, hq⟩ : ∃ q : Int, q = (m.length : Int) - ((kdel m f3).length : Nat) := ⟨_, rfl⟩
              obtain ⟨b, hb⟩ : ∃ b : Bool, b = (kget m f3).isSome := ⟨_, rfl⟩
              have hone := drop_one R7.out.view.rises f3
              rw [← hq, ← hb] at hone
              have hris := R7.out.view.rises
              have DR0 := dropV_c (R7.out.turn0 TA).view (some ⟨w7.heap.size, 0, none⟩) 2 2 [f3, f3] ((Sl.new w7 #[.int .i64 f3, .int .i64 f3] 3).turn0 ((Turn.refl [] _).drew)) rfl (by omega) (fun _ i hi => by have h2 := R7.out.lts.2.1; simp [blks] at hi; omega) (fun x hx => by simp at hx; subst hx; exact wf3.out)
              rw [drop2, ← hq] at DR0
              have DR := Lib.hid DR0
              have RD : Hid (∀ wz, RVIs wz r (o1, o2, o3, o4) A n cc m → Calls Try.prog 33 #[.pointer (some ⟨r, 0, none⟩), .int .i64 f3] wz fun e w' => ∃ A' n' c', e = .returned (.bool b) ∧ RVIs w' r (o1, o2, o3, o4) A' n' c' (kdel m f3) ∧ (∀ x ∈ blks A', x ∈ blks A ∨ wz.heap.size ≤ x) ∧ Turn [r] wz w') := fun wz hz => by
                rw [hb]
                exact rDrop_c hz HEN.out.1 hris hn16 f3
              clear DR0 hq hb
              go_wp2_with fail
              go_region_held3 (fun w' => w'.cell? ⟨wx.heap.size, 2, none⟩ = some (.int .i64 f2) ∧ w'.cell? ⟨wx.heap.size, 3, none⟩ = some (.int .i64 f3) ∧ w'.cell? ⟨wx.heap.size, 4, none⟩ = some (.int .i64 f4) ∧ w'.cell? ⟨wx.heap.size, 5, none⟩ = some (.int .i64 f5) ∧ w'.cell? ⟨wx.heap.size, 6, none⟩ = some (.int .i64 f6) ∧ w'.cell? ⟨xb, 0, none⟩ = some (.int .i64 f3) ∧ w'.cell? ⟨xb, 1, none⟩ = some (.int .i64 f4) ∧ w'.cell? ⟨xb, 2, none⟩ = some (.int .i64 f5) ∧ w'.cell? ⟨xb, 3, none⟩ = some (.int .i64 f6) ∧ Turn (r :: mb :: s :: o :: blks A) w7 w') (first | with_reducible exact AE _ TDm | with_reducible exact AE _ T8 | with_reducible exact AE _ T9 | with_reducible exact AE _ TAm)
                (first
                  | (go_at_call 17; refine DR.out.mono ?_; rintro e w8 ⟨rfl, V8, hT8⟩; have R8 := Lib.hid ((R7.out.turn0 TA).view' V8 hT8); have T8 : Turn (r :: mb :: s :: o :: blks A) w7 w8 := TAm.trans (hT8.mono (by simp)))
                  | (go_at_call 33; refine (RD.out _ R8.out.ref).mono ?_; rintro e w9 ⟨A', n', c', rfl, h9, hb9, hT9⟩; have R9 := Lib.hid (R8.out.ref' h9 hb9 (hT9.mono (by simp))); have T9 : Turn (r :: mb :: s :: o :: blks A) w7 w9 := T8.trans (hT9.mono (by simp))))
              go_wp2_with fail
              go_meet
              case rel => exact ⟨0, rfl, rfl, by simp [Small], _, _, _, G, G', _, R9.out, kdel_en HEN.out _, HSA.out⟩
            · have TA : Turn [] w7 ((w7.alloc (.cells #[.int .i64 f6] 3)).drew) := ((Turn.refl [] w7).alloc _).drew
              have TB : Turn [] w7 (((w7.alloc (.cells #[.int .i64 f6] 3)).alloc (.cells #[.int .i64 f6] 3)).drew) := (((Turn.refl [] w7).alloc _).alloc _).drew
              have TAm : Turn (r :: mb :: s :: o :: blks A) w7 ((w7.alloc (.cells #[.int .i64 f6] 3)).drew) := TA.mono (by simp)
              have TBm : Turn (r :: mb :: s :: o :: blks A) w7 (((w7.alloc (.cells #[.int .i64 f6] 3)).alloc (.cells #[.int .i64 f6] 3)).drew) := TB.mono (by simp)
              have SL1 : Sl ((w7.alloc (.cells #[.int .i64 f6] 3)).drew) (some ⟨w7.heap.size, 0, none⟩) (i64s [f6]) := (Sl.new w7 #[.int .i64 f6] 3).turn0 ((Turn.refl [] _).drew)
              have SLa : Sl (((w7.alloc (.cells #[.int .i64 f6] 3)).alloc (.cells #[.int .i64 f6] 3)).drew) (some ⟨w7.heap.size, 0, none⟩) (i64s [f6]) := (Sl.new w7 #[.int .i64 f6] 3).turn0 (((Turn.refl [] _).alloc _).drew)
              have SLb : Sl (((w7.alloc (.cells #[.int .i64 f6] 3)).alloc (.cells #[.int .i64 f6] 3)).drew) (some ⟨w7.heap.size + 1, 0, none⟩) (i64s [f6]) := by
                have h1 := (Sl.new (w7.alloc (.cells #[.int .i64 f6] 3)) #[.int .i64 f6] 3).turn0 ((Turn.refl [] _).drew)
                rw [alloc_size1] at h1
                exact h1
              have RV : Hid (∀ G2 wz, RSIs wz o G2 → ∀ p, Sl wz p (i64s [f6]) → Calls Try.prog 34 #[.pointer (some ⟨o, 0, none⟩), .int .i64 1, .slice p 1 1] wz (RRevoked wz o G2 1 [f6])) := fun G2 wz h p hx => rRevoke_c h 1 (by omega) p 1 1 [f6] hx rfl (by omega)
              have VV : Hid (∀ G2 wz, SIs wz s G2 → ∀ p, Sl wz p (i64s [f6]) → Calls Try.prog 23 #[.pointer (some ⟨s, 0, none⟩), .int .i64 1, .slice p 1 1] wz (Revoked wz s G2 1 [f6])) := fun G2 wz h p hx => revoke_c h 1 (by omega) p 1 1 [f6] hx rfl (by omega)
              have olt := R7.out.lts.2.2.2.2
              go_wp2_with fail
              go_region_held3 (fun w' => w'.cell? ⟨wx.heap.size, 2, none⟩ = some (.int .i64 f2) ∧ w'.cell? ⟨wx.heap.size, 3, none⟩ = some (.int .i64 f3) ∧ w'.cell? ⟨wx.heap.size, 4, none⟩ = some (.int .i64 f4) ∧ w'.cell? ⟨wx.heap.size, 5, none⟩ = some (.int .i64 f5) ∧ w'.cell? ⟨wx.heap.size, 6, none⟩ = some (.int .i64 f6) ∧ w'.cell? ⟨xb, 0, none⟩ = some (.int .i64 f3) ∧ w'.cell? ⟨xb, 1, none⟩ = some (.int .i64 f4) ∧ w'.cell? ⟨xb, 2, none⟩ = some (.int .i64 f5) ∧ w'.cell? ⟨xb, 3, none⟩ = some (.int .i64 f6) ∧ Turn (r :: mb :: s :: o :: blks A) w7 w') (first | with_reducible exact AE _ TDm | with_reducible exact AE _ T8 | with_reducible exact AE _ TBm | with_reducible exact AE _ T9 | with_reducible exact AE _ (Turn.alloc T8 _) | with_reducible exact AE _ TAm)
                (first
                  | (go_at_call 34; (with_reducible refine (RV.out _ _ (R7.out.turn0 TA).rset _ SL1).mono ?_); rintro e w8 ⟨G2', rfl, h8, ho8, hx8, hb8, hT8⟩; have R8 := Lib.hid ((R7.out.turn0 TA).rset' h8 hb8 hT8); have T8 : Turn (r :: mb :: s :: o :: blks A) w7 w8 := TAm.trans (hT8.mono (by simp)))
                  | (go_at_call 34; (with_reducible refine (RV.out _ _ (R7.out.turn0 TB).rset _ SLa).mono ?_); rintro e w8 ⟨G2', rfl, h8, ho8, hx8, hb8, hT8⟩; have R8 := Lib.hid ((R7.out.turn0 TB).rset' h8 hb8 hT8); have T8 : Turn (r :: mb :: s :: o :: blks A) w7 w8 := TBm.trans (hT8.mono (by simp)))
                  | (go_at_call 34; (with_reducible refine (RV.out _ _ (R7.out.turn0 TB).rset _ SLb).mono ?_); rintro e w8 ⟨G2', rfl, h8, ho8, hx8, hb8, hT8⟩; have R8 := Lib.hid ((R7.out.turn0 TB).rset' h8 hb8 hT8); have T8 : Turn (r :: mb :: s :: o :: blks A) w7 w8 := TBm.trans (hT8.mono (by simp)))
                  | (go_at_call 23; (with_reducible refine (VV.out _ _ (R8.out.turn0 ((Turn.refl [] w8).alloc (.cells #[.int .i64 f6] 3))).set _ (Sl.new w8 #[.int .i64 f6] 3)).mono ?_); rintro e w9 ⟨G2, rfl, h9, ho9, hx9, hb9, hT9⟩; have R9 := Lib.hid ((R8.out.turn0 ((Turn.refl [] w8).alloc (.cells #[.int .i64 f6] 3))).set' h9 hb9 hT9); have T9 : Turn (r :: mb :: s :: o :: blks A) w7 w9 := (T8.alloc _).trans (hT9.mono (by simp)))
                  | (go_at_call 23; (with_reducible refine (VV.out _ _ R8.out.set _ (SLb.turn hT8 (off_blks (by simp [blks]; omega)))).mono ?_); rintro e w9 ⟨G2, rfl, h9, ho9, hx9, hb9, hT9⟩; have R9 := Lib.hid (R8.out.set' h9 hb9 hT9); have T9 : Turn (r :: mb :: s :: o :: blks A) w7 w9 := T8.trans (hT9.mono (by simp)))
                  | (go_at_call 23; (with_reducible refine (VV.out _ _ R8.out.set _ (SLa.turn hT8 (off_blks (by simp [blks]; omega)))).mono ?_); rintro e w9 ⟨G2, rfl, h9, ho9, hx9, hb9, hT9⟩; have R9 := Lib.hid (R8.out.set' h9 hb9 hT9); have T9 : Turn (r :: mb :: s :: o :: blks A) w7 w9 := T8.trans (hT9.mono (by simp))))
              all_goals
                go_wp2_with fail
                go_meet
                case rel => exact ⟨_, rfl, by rw [HSA.out 1 (by omega)], revR_sm _ _, _, _, _, G2, G2', _, R9.out, HEN.out, fun j hj => by
                  by_cases hj1 : j = 1
                  · subst hj1
                    rw [hx8, hx9, HSA.out 1 (by omega)]
                  · rw [ho8 j hj1, ho9 j hj1]
                    exact HSA.out j hj⟩
          case rest =>
            obtain ⟨ra, rfl, rfl, hsm, A', n', cc', G2, G2', m', R8, hen8, hsa8⟩ := hcut
            obtain ⟨w8, rfl⟩ : ∃ w8 : World, w8 = wc := ⟨_, rfl⟩
            have TL := Lib.hid (tells_c R8.view R8.ref hen8.1 c1 c2 c3 c4 HWF.out)
            have R8' := Lib.hid R8
            have HE8 := Lib.hid hen8
            have HS8 := Lib.hid hsa8
            have BC8 := R8.turn.blk HBC.out (by simp)
            have b0 := BC8.cell 0
            have b1 := BC8.cell 1
            have b2 := BC8.cell 2
            have b3 := BC8.cell 3
            have bcl := BC8.lt
            clear R8 hen8 hsa8 BC8
            go_wp2_with fail
            refine TL.out.mono ?_
            rintro e w9 ⟨rfl, hT9⟩
            go_wp2_with fail
            go_roundw
            case rel => exact ⟨i + 1, by omega, by omega, by go_num, A', n', cc', G2, G2', m', R8'.out.turn0 hT9, HE8.out, HS8.out⟩
            case measure => simp [intOf]; omega
        · have hgo2 : ¬ ((i : Int) < (len : Int) ∧ (i : Int) < 60) := by omega
          have RI : Hid (PlInv w0 v mb s r o (o1, o2, o3, o4) wx) := ⟨A, n, cc, G, G', m, R, hen, hsame⟩
          clear R hen hsame
          by_cases h1 : i < len
          · have i1 : (i : Int) < (len : Int) := by omega
            have i2 : ¬ (i : Int) < 60 := by omega
            go_wp2_with fail
            go_meet
            case rel => exact RI.out
          · have i1 : ¬ (i : Int) < (len : Int) := by omega
            go_wp2_with fail
            go_meet
            case rel => exact RI.out
    case rest =>
      obtain ⟨A', n', cc', G2, G2', m', R8, hen8, hsa8⟩ := hcut
      obtain ⟨w8, rfl⟩ : ∃ w8 : World, w8 = wc := ⟨_, rfl⟩
      have TL := Lib.hid (fun wz (hz : Turn [] w8 wz) => tells_c (R8.turn0 hz).view (R8.turn0 hz).ref hen8.1 c1 c2 c3 c4 HWF.out)
      have HT8 := Lib.hid R8.turn
      clear R8 hen8 hsa8 HR5
      go_wp2_with fail
      refine (KC.out _).mono ?_
      rintro e w9 ⟨rfl, hT9⟩
      have BC9 := (HT8.out.trans hT9).blk HBC.out (by simp)
      have b0 := BC9.cell 0
      have b1 := BC9.cell 1
      have b2 := BC9.cell 2
      have b3 := BC9.cell 3
      have bcl := BC9.lt
      go_wp2_with fail
      refine (TL.out _ hT9).mono ?_
      rintro e w10 ⟨rfl, hT10⟩
      go_wp2_with fail
      go_ret
      exact ⟨by simp, HT0.out.trans ((HT8.out.trans hT9).trans hT10)⟩
  · rw [decide_eq_false hr] at RC
    have NV := Lib.hid (fun wz => newV_no o1 o2 o3 o4 wz hr)
    go_enter Try.func6, Try.ntmps6
    go_wp2_with fail
    rw [← HW0.out]
    refine (TC.out _).mono ?_
    rintro e w1 ⟨rfl, hT1⟩
    go_wp2_with fail
    refine (NV.out _).mono ?_
    rintro e w2 ⟨rfl, hT2⟩
    have T2 := (hT1.trans hT2)
    have B2 := T2.blk HBO.out (by simp)
    have b0 := B2.cell 0
    have b1 := B2.cell 1
    have b2 := B2.cell 2
    have b3 := B2.cell 3
    have bl := B2.lt
    go_wp2_with fail
    refine (RC.out _).mono ?_
    rintro e w3 ⟨rfl, hT3⟩
    go_wp2_with fail
    refine (KC.out _).mono ?_
    rintro e w4 ⟨rfl, hT4⟩
    go_wp2_with fail
    go_ret
    exact ⟨by simp, HT0.out.trans ((T2.trans hT3).trans hT4)⟩
end Go.Proofs.Ytelagneielahhaa
