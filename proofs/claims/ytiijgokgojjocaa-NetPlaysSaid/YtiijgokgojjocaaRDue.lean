/- The reference's net: Due. -/
import Derived.Test.YtiijgokgojjocaaRNetC
import Derived.Test.YtiijgokgojjocaaRNetP
namespace Go.Proofs.Ytiijgokgojjocaa
open Go.RowKit Go.ChangeMaps Go.WideMaps Go.MapKept Go.WideShapes Srt

def midM (A : Option Addr) (c l sz : Nat) : Option Addr := if c = l then A else A.map (·.add (l * sz))
theorem run_slice_tailM {P : Program} {t e : TypeId} {i : TypeInfo} {sz : Nat} (ht : P.underlying t = some (.slice e)) (hi : P.info? e = some i) (hsz : i.size = sz) (w : World) (a : Option Addr) (n c l : Nat) (k : IntKind) (h1 : l ≤ n) (h3 : n ≤ c) :
    (Instr.slice t (.slice a n c) (some (.int k (l : Int))) none none).run P w = .ok (.slice (midM a c l sz) (n - l) (c - l)) w := by
  have e2 : (l : Int) ≤ (n : Int) := by omega
  have e3 : (n : Int) ≤ (c : Int) := by omega
  simp [Instr.slice, run_underlying ht, Instr.sliceBounds, Instr.sliceBound, asIntOf, sizeOf, typeInfo, hi, hsz, midM]
  intro hh
  omega
theorem SlM.tail {w : World} {A : Option Addr} {l : List Ml} {c k : Nat} (h : Sl w A (mcs l)) (hc : l.length ≤ c) : Sl w (midM A c k 4) (mcs (l.drop k)) := fun hpos => by
  have hl : k < l.length := by rw [mcs_len, List.length_drop] at hpos; omega
  obtain ⟨b, off, rfl, hb, hcell⟩ := h (by rw [mcs_len]; omega)
  have hne : c ≠ k := by omega
  refine ⟨b, off + k * 4, by simp [midM, hne, WideShapes.add_plain], hb, fun j u hu => ?_⟩
  rw [← mcs_drop, List.getElem?_drop] at hu
  rw [show off + k * 4 + j = off + (k * 4 + j) by omega]
  exact hcell _ u hu
theorem srt_step {tick : Int} {ms : List Ml} {i : Nat} (hi : i < ms.length) (h : isDue tick ms[i] = true) : srt Ml.due ((ms.take (i + 1)).filter (isDue tick)) = ins Ml.due (srt Ml.due ((ms.take i).filter (isDue tick))) ms[i] ∧ (ms.take (i + 1)).filter (fun m => !isDue tick m) = (ms.take i).filter (fun m => !isDue tick m) := by
  rw [List.take_succ_eq_append_getElem hi, List.filter_append, List.filter_append]
  have e1 : [ms[i]].filter (isDue tick) = [ms[i]] := by simp [h]
  have e2 : [ms[i]].filter (fun m => !isDue tick m) = [] := by simp [h]
  rw [e1, e2, srt_snoc, List.append_nil]
  exact ⟨rfl, rfl⟩
theorem stay_step {tick : Int} {ms : List Ml} {i : Nat} (hi : i < ms.length) (h : isDue tick ms[i] = false) : srt Ml.due ((ms.take (i + 1)).filter (isDue tick)) = srt Ml.due ((ms.take i).filter (isDue tick)) ∧ (ms.take (i + 1)).filter (fun m => !isDue tick m) = (ms.take i).filter (fun m => !isDue tick m) ++ [ms[i]] := by
  rw [List.take_succ_eq_append_getElem hi, List.filter_append, List.filter_append]
  have e1 : [ms[i]].filter (isDue tick) = [] := by simp [h]
  have e2 : [ms[i]].filter (fun m => !isDue tick m) = [ms[i]] := by simp [h]
  rw [e1, e2, List.append_nil]
  exact ⟨rfl, rfl⟩
section
variable {w w' : World} {m : Nat} {s : Int} {r : Rl} {C : Option Addr} {nc kc : Nat} {cl : List (Int × Int)} {A : Option Addr} {n cap : Nat} {ms : List Ml} {B : Option Addr} {nb kb : Nat} {cs : List Ml} {sent lost told : Int}
theorem RNetIs.setTold (h : RNetIs w m s r C nc kc cl A n cap ms B nb kb cs sent lost told) (v : Int) : RNetIs (w.setCell ⟨m, 10, none⟩ (.int .i64 v)) m s r C nc kc cl A n cap ms B nb kb cs sent lost v ∧ Turn [m] w (w.setCell ⟨m, 10, none⟩ (.int .i64 v)) := by
  have T : Turn [m] w (w.setCell ⟨m, 10, none⟩ (.int .i64 v)) := (Turn.refl [m] w).setCell (.inl (by simp)) _
  obtain ⟨o1, o2, o3, o4⟩ := h.off_m T
  exact ⟨⟨by simpa using h.blk.set_ 10 (.int .i64 v), o1, o2, o3, h.apart, o4, h.rok⟩, T⟩
def RDued (w : World) (m : Nat) (s : Int) (r : Rl) (C : Option Addr) (nc kc : Nat) (cl : List (Int × Int)) (ms : List Ml) (B : Option Addr) (cs : List Ml) (sent lost told tick : Int) (e : Ending) (w' : World) : Prop :=
  ∃ O no co A' n' cap' B' nb' kb', e = .returned (.slice O no co) ∧ Sl w' O (mcs (srt Ml.due (ms.filter (isDue tick)))) ∧ no = (ms.filter (isDue tick)).length ∧
    RNetIs w' m s r C nc kc cl A' n' cap' (ms.filter (fun m => !isDue tick m)) B' nb' kb' (cs ++ srt Ml.due (ms.filter (isDue tick))) sent lost (told + ((ms.filter (isDue tick)).length : Nat)) ∧
    (∀ i ∈ blks A', w.heap.size ≤ i) ∧ (∀ i ∈ blks B', i ∈ blks B ∨ w.heap.size ≤ i) ∧ Turn (m :: blks B) w w'
set_option maxRecDepth 100000 in
set_option maxHeartbeats 8000000 in
theorem rDue_c (h : RNetIs w m s r C nc kc cl A n cap ms B nb kb cs sent lost told) (hl : n ≤ 100000) (hlb : nb ≤ 1000000) (ht0 : 0 ≤ told) (ht1 : told ≤ 1000000000) (tick : Int) :
    Calls Try.prog 21 #[.pointer (some ⟨m, 0, none⟩), .int .i64 tick] w (RDued w m s r C nc kc cl ms B cs sent lost told tick) := by
  have H := Lib.hid h
  have HN := Lib.hid h.lens
  obtain ⟨-, -, -, -, -, -, c6, -, -, -, -, ml⟩ := h.cells
  clear h
  unfold RDued
  go_enter Try.func21, Try.ntmps21
  go_wp2_with fail
  go_loopw [5, 6, 7] (fun x y ix wr => ∃ i : Nat, i ≤ n ∧ ix = .int .i64 ((i : Nat) : Int) ∧ ∃ O no co R nr cr, x = .slice O no co ∧ y = .slice R nr cr ∧ no ≤ i ∧ nr ≤ i ∧ wr.ownsRow w.heap.size 63 4 (.slice O no co) no (mcs (srt Ml.due ((ms.take i).filter (isDue tick)))) ∧
    wr.ownsRow w.heap.size 63 4 (.slice R nr cr) nr (mcs ((ms.take i).filter (fun m => !isDue tick m))) ∧ (∀ i ∈ blks O, i ∉ blks R) ∧ Turn [] w wr) (fun _ _ ix _ => n - (intOf ix).toNat)
  case atStart => exact ⟨0, by omega, rfl, none, 0, 0, none, 0, 0, rfl, rfl, by omega, by omega, by simp [srt, mcs]; exact World.ownsRow_nil _ _ _ _, by simp [mcs]; exact World.ownsRow_nil _ _ _ _, by simp [blks], Turn.refl _ _⟩
  case round =>
    obtain ⟨i, hi, rfl, O, no, co, R, nr, cr, rfl, rfl, hno, hnr, oO, oR, hap, hT⟩ := hrel
    obtain ⟨wx, rfl⟩ : ∃ wo : World, wo = wr := ⟨_, rfl⟩
    have i0 : (0 : Int) ≤ (i : Int) := Int.natCast_nonneg _
    have H2 := H.out.turn0 hT
    obtain ⟨-, -, -, -, -, -, c6, -, -, -, -, ml⟩ := H2.cells
    have hz := hT.size
    by_cases hlt : i < n
    · have i1 : (i : Int) < (n : Int) := by omega
      have kx : i < ms.length := by have := HN.out.2.1; omega
      obtain ⟨xb, xo, rfl, xbl, y0, y1, y2, y3⟩ := mcs_at H2.sls.2.1 kx
      have OO := Lib.hid oO
      have OR := Lib.hid oR
      have HAP := Lib.hid hap
      have HT := Lib.hid hT
      by_cases hd : isDue tick ms[i] = true
      · have HST := Lib.hid (srt_step kx hd)
        have hd2 : ms[i].due ≤ tick := by simpa [isDue] using hd
        have g1 : ¬ tick < ms[i].due := by omega
        clear oO oR hap hT H2 hd hd2
        generalize ms[i] = x at *
        obtain ⟨dx, fx, tx, xA, xn, xc, xs⟩ := x
        simp only at *
        have T1 : Turn [] wx (wx.alloc (.cells #[.int .i64 dx, .int .i64 fx, .int .i64 tx, .slice xA xn xc] 63)) := (Turn.refl [] wx).alloc _
        have HB1 := Lib.hid (Blk.new wx 63 #[.int .i64 dx, .int .i64 fx, .int .i64 tx, .slice xA xn xc])
        have HASC := Lib.hid (srt_asc (f := Ml.due) ((ms.take i).filter (isDue tick)))
        have hyl := OO.out.1
        rw [mcs_len] at hyl
        have hHT1 := Lib.hid (HT.out.trans T1)
        generalize hY : srt Ml.due ((ms.take i).filter (isDue tick)) = Y at *
        have HY := Lib.hid hY
        have hyl2 : Y.length = no := by omega
        have O1 := Lib.hid (own_turnA OO.out T1 (by simp))
        have R1 := Lib.hid (own_turnA OR.out T1 (by simp))
        clear hyl hY OO OR
        go_upto_block 2 with fail
        generalize wx.alloc (.cells #[.int .i64 dx, .int .i64 fx, .int .i64 tx, .slice xA xn xc] 63) = w1 at *
        generalize wx.heap.size = xm at *
        go_cut [9] (fun ax wc => ∃ k : Nat, k ≤ no ∧ ax = .int .i64 ((k : Nat) : Int) ∧ (∀ z ∈ Y.drop k, dx < z.due) ∧ (k = 0 ∨ ∃ hk' : k - 1 < Y.length, ¬ dx < Y[k - 1].due) ∧ Turn [] w1 wc)
        case first =>
          go_wp2_with fail
          go_loopw [9] (fun ax wr => ∃ k : Nat, k ≤ no ∧ ax = .int .i64 ((k : Nat) : Int) ∧ (∀ z ∈ Y.drop k, dx < z.due) ∧ Turn [] w1 wr) (fun ax _ => (intOf ax).toNat)
          case atStart => exact ⟨no, Nat.le_refl _, rfl, by rw [List.drop_of_length_le (by omega)]; simp, Turn.refl _ _⟩
          case round =>
            obtain ⟨k, hk, rfl, hdk, hTk⟩ := hrel
            obtain ⟨wy, rfl⟩ : ∃ wo : World, wo = wr := ⟨_, rfl⟩
            have HDK := Lib.hid hdk
            clear hdk
            by_cases k0 : k = 0
            · subst k0
              go_wp2_with fail
              go_quiet (fail)
              go_wp2_with fail
              go_meet
              case rel => exact ⟨0, by omega, rfl, HDK.out, .inl rfl, hTk.drewN _⟩
            · obtain ⟨j, rfl⟩ : ∃ j, k = j + 1 := ⟨k - 1, by omega⟩
              have kj : j < Y.length := by omega
              have j0 : (0 : Int) ≤ (j : Int) := Int.natCast_nonneg _
              have j1 : (j : Int) < (no : Int) := by omega
              have j2 : (0 : Int) < (j : Int) + 1 := by omega
              obtain ⟨ob, oo, rfl, obl, z0, -, -, -⟩ := mcs_at ((Sl.of_own O1.out).turn0 hTk) kj
              have BM := hTk.blk HB1.out (by simp)
              have b0 := BM.cell 0
              have bml := BM.lt
              clear BM
              by_cases h1 : dx < Y[j].due
              · have hd2 := Lib.hid (show ∀ z ∈ Y.drop j, dx < z.due by
                  rw [List.drop_eq_getElem_cons kj]
                  intro z hz
                  rw [List.mem_cons] at hz
                  rcases hz with rfl | hz
                  · exact h1
                  · exact HDK.out z hz)
                generalize Y[j].due = dj at *
                go_wp2_with fail
                go_quiet (fail)
                go_wp2_with fail
                exact ⟨⟨j, by omega, rfl, hd2.out, hTk.drewN _⟩, by simp [intOf]⟩
              · have hd2 := Lib.hid (show ∃ hk' : j < Y.length, ¬ dx < Y[j].due from ⟨kj, h1⟩)
                generalize Y[j].due = dj at *
                go_wp2_with fail
                go_quiet (fail)
                go_wp2_with fail
                go_meet
                case rel => exact ⟨j + 1, by omega, by go_num, HDK.out, .inr hd2.out, hTk.drewN _⟩
        case rest =>
          obtain ⟨k, hk, rfl, hdk, hka, hTc⟩ := hcut
          obtain ⟨wy, rfl⟩ : ∃ wo : World, wo = wc := ⟨_, rfl⟩
          have k0 : (0 : Int) ≤ (k : Int) := Int.natCast_nonneg _
          have k1 : (k : Int) ≤ (no : Int) := by omega
          have HINS := Lib.hid (ins_at (m := ⟨dx, fx, tx, xA, xn, xc, xs⟩) HASC.out (show k ≤ Y.length by omega) hdk hka)
          clear hdk hka
          obtain ⟨iP, hiP, -, hsP, -⟩ := elemRM.info
          have hcO := (own_caps O1.out).1
          have HD := fun (w : World) => run_slice_head (P := Try.prog) Try.underlying52 hiP w O no co .i64 (k : Int) k0 (by omega)
          have HTL := fun (w : World) => run_slice_tailM (P := Try.prog) (sz := 4) Try.underlying52 hiP hsP w O no co k .i64 hk hcO
          rw [Int.toNat_natCast] at HD
          have shd : Sl wy O (mcs (Y.take k)) := by have := ((Sl.of_own O1.out).turn0 hTc).take (k * 4); rwa [mcs_take] at this
          have stl : Sl wy (midM O co k 4) (mcs (Y.drop k)) := SlM.tail ((Sl.of_own O1.out).turn0 hTc) (by omega)
          have hl1 : (mcs (Y.take k)).length = k * 4 := by rw [mcs_len, List.length_take]; omega
          have hl2 : (mcs (Y.drop k)).length = (no - k) * 4 := by rw [mcs_len, List.length_drop, hyl2]
          have hone1 := Lib.hid (mcs_one (Y.take k))
          have hone2 := Lib.hid (mcs_one (Y.drop k))
          have HSH := Lib.hid shd
          have HST2 := Lib.hid stl
          generalize midM O co k 4 = O3 at *
          have BM := hTc.blk HB1.out (by simp)
          have HBM := Lib.hid BM
          have TW1 : Turn [] wy (wy.alloc (.cells #[] 63)).drew := ((Turn.refl [] wy).alloc _).drew
          have TW2 : Turn [] wy ((wy.alloc (.cells #[] 63)).alloc (.cells #[.int .i64 dx, .int .i64 fx, .int .i64 tx, .slice xA xn xc] 63)).drew := (((Turn.refl [] wy).alloc _).alloc _).drew
          have TW3 : Turn [] wy ((wy.alloc (.cells #[.int .i64 dx, .int .i64 fx, .int .i64 tx, .slice xA xn xc] 63)).alloc (.cells #[] 63)).drew := (((Turn.refl [] wy).alloc _).alloc _).drew
          have A1 : ∀ wz, Turn [] wy wz → (wz.cell? ⟨xm, 0, none⟩ = some (.int .i64 dx) ∧ wz.cell? ⟨xm, 1, none⟩ = some (.int .i64 fx) ∧ wz.cell? ⟨xm, 2, none⟩ = some (.int .i64 tx) ∧ wz.cell? ⟨xm, 3, none⟩ = some (.slice xA xn xc) ∧ Turn [] wy wz) := fun wz hz => by
            have B := hz.blk HBM.out (by simp)
            exact ⟨B.cell 0, B.cell 1, B.cell 2, B.cell 3, hz⟩
          obtain ⟨b0, b1, b2, b3, -⟩ := A1 wy (Turn.refl _ _)
          have bml := BM.lt
          have E0 := World.ownsRow_lit (base := wy.heap.size) (e := 63) (size := 4) wy #[] 0 (Nat.le_refl _) (by simp) rfl
          have E1 := Lib.hid (E0.drew)
          have E2 := Lib.hid ((E0.alloc (.cells #[.int .i64 dx, .int .i64 fx, .int .i64 tx, .slice xA xn xc] 63)).drew)
          have E3 : Hid (World.ownsRow (((wy.alloc (.cells #[.int .i64 dx, .int .i64 fx, .int .i64 tx, .slice xA xn xc] 63)).alloc (.cells #[] 63)).drew) wy.heap.size 63 4 (.slice (some ⟨wy.heap.size + 1, 0, none⟩) 0 0) 0 []) := by
            have := (World.ownsRow_lit (base := wy.heap.size) (e := 63) (size := 4) (wy.alloc (.cells #[.int .i64 dx, .int .i64 fx, .int .i64 tx, .slice xA xn xc] 63)) #[] 0 (by simp) (by simp) rfl).drew
            exact Lib.hid (by simpa using this)
          have SLb : Hid (Sl (((wy.alloc (.cells #[] 63)).alloc (.cells #[.int .i64 dx, .int .i64 fx, .int .i64 tx, .slice xA xn xc] 63)).drew) (some ⟨wy.heap.size + 1, 0, none⟩) [.int .i64 dx, .int .i64 fx, .int .i64 tx, .slice xA xn xc]) := by
            have := (Sl.new (wy.alloc (.cells #[] 63)) #[.int .i64 dx, .int .i64 fx, .int .i64 tx, .slice xA xn xc] 63).turn0 ((Turn.refl [] _).drew)
            exact Lib.hid (by simpa using this)
          have SLc : Hid (Sl (((wy.alloc (.cells #[.int .i64 dx, .int .i64 fx, .int .i64 tx, .slice xA xn xc] 63)).alloc (.cells #[] 63)).drew) (some ⟨wy.heap.size, 0, none⟩) [.int .i64 dx, .int .i64 fx, .int .i64 tx, .slice xA xn xc]) := Lib.hid ((Sl.new wy #[.int .i64 dx, .int .i64 fx, .int .i64 tx, .slice xA xn xc] 63).turn0 (((Turn.refl [] _).alloc _).drew))
          have HH1 := Lib.hid (HSH.out.turn0 TW1)
          have HH2 := Lib.hid (HSH.out.turn0 TW2)
          have HH3 := Lib.hid (HSH.out.turn0 TW3)
          clear shd stl hiP hsP BM E0
          go_wp2_with fail
          go_region_held3 (fun w' => w'.cell? ⟨xm, 0, none⟩ = some (.int .i64 dx) ∧ w'.cell? ⟨xm, 1, none⟩ = some (.int .i64 fx) ∧ w'.cell? ⟨xm, 2, none⟩ = some (.int .i64 tx) ∧ w'.cell? ⟨xm, 3, none⟩ = some (.slice xA xn xc) ∧ Turn [] wy w') (first | with_reducible exact A1 _ TW1 | with_reducible exact A1 _ TW2 | with_reducible exact A1 _ TW3 | with_reducible exact A1 _ T10 | with_reducible exact A1 _ (Turn.alloc T10 _) | with_reducible exact A1 _ T11 | with_reducible exact A1 _ (Turn.drew (Turn.refl _ _)) | with_reducible exact A1 _ (Turn.alloc (Turn.refl _ _) _) | with_reducible exact A1 _ (Turn.alloc (Turn.alloc (Turn.refl _ _) _) _) | with_reducible exact A1 _ (Turn.drew T10) | with_reducible exact A1 _ (Turn.drew (Turn.alloc T10 _)) | with_reducible exact A1 _ (Turn.drew (Turn.alloc (Turn.refl _ _) _)) | with_reducible exact A1 _ (Turn.drew (Turn.alloc (Turn.alloc (Turn.refl _ _) _) _)) | (trace_state; fail))
            (first
            | ((refine step_append_sl elemRM (by rfl) _ _ (by rfl) _ 0 _ [] (by rfl) E1.out _ k co (mcs (Y.take k)) (by rfl) HH1.out hl1 hone1.out (by omega) (by omega) (by simp; try omega) ?_); intro D3 cd3 w10 own10 hg10 hlie10; rw [Nat.zero_add, List.nil_append] at own10; have T10 : Turn [] wy w10 := TW1.andThen (Turn.of_grown (S := [wy.heap.size]) hg10 (by simp)) (by simp); have z10 := T10.size)
            | ((refine step_append_sl elemRM (by rfl) _ _ (by rfl) _ 0 _ [] (by rfl) E2.out _ k co (mcs (Y.take k)) (by rfl) HH2.out hl1 hone1.out (by omega) (by omega) (by simp; try omega) ?_); intro D3 cd3 w10 own10 hg10 hlie10; rw [Nat.zero_add, List.nil_append] at own10; have T10 : Turn [] wy w10 := TW2.andThen (Turn.of_grown (S := [wy.heap.size]) hg10 (by simp)) (by simp); have z10 := T10.size; have SL10 := Lib.hid (SLb.out.turn (Turn.of_grown (S := [wy.heap.size]) hg10 (by simp)) (by intro a ha; cases ha; simp)))
            | ((refine step_append_sl elemRM (by rfl) _ _ (by rfl) _ 0 _ [] (by rfl) E3.out _ k co (mcs (Y.take k)) (by rfl) HH3.out hl1 hone1.out (by omega) (by omega) (by simp; try omega) ?_); intro D3 cd3 w10 own10 hg10 hlie10; rw [Nat.zero_add, List.nil_append] at own10; have T10 : Turn [] wy w10 := TW3.andThen (Turn.of_grown (S := [wy.heap.size + 1]) hg10 (by simp)) (by simp); have z10 := T10.size; have SL10 := Lib.hid (SLc.out.turn (Turn.of_grown (S := [wy.heap.size + 1]) hg10 (by simp)) (by intro a ha; cases ha; simp)))
            | ((refine step_append_sl elemRM (by rfl) _ _ (by rfl) D3 k cd3 (mcs (Y.take k)) (by rfl) (own10.alloc _) _ 1 1 [.int .i64 dx, .int .i64 fx, .int .i64 tx, .slice xA xn xc] (by rfl) (Sl.new _ #[.int .i64 dx, .int .i64 fx, .int .i64 tx, .slice xA xn xc] _) (by simp) (by simp [Value.oneCell']) (by omega) (by omega) (by simp; omega) ?_); intro D4 cd4 w11 own11 hg11 hlie11; have T11 : Turn [] wy w11 := (T10.alloc (.cells #[.int .i64 dx, .int .i64 fx, .int .i64 tx, .slice xA xn xc] 63)).andThen (grown_turn hg11) (fun i hi => .inr ((own_ltA own10 i hi).2)); have z11 := T11.size)
            | ((refine step_append_sl elemRM (by rfl) _ _ (by rfl) D3 (0 + k) cd3 (mcs (Y.take k)) (by rfl) (by rw [Nat.zero_add]; exact own10) _ 1 1 [.int .i64 dx, .int .i64 fx, .int .i64 tx, .slice xA xn xc] (by rfl) SL10.out (by simp) (by simp [Value.oneCell']) (by omega) (by omega) (by omega) ?_); intro D4 cd4 w11 own11 hg11 hlie11; rw [Nat.zero_add] at own11; have T11 : Turn [] wy w11 := T10.andThen (grown_turn hg11) (fun i hi => .inr ((own_ltA own10 i hi).2)); have z11 := T11.size)
            | ((refine step_append_sl elemRM (by rfl) _ _ (by rfl) D3 k cd3 (mcs (Y.take k)) (by rfl) own10 _ 1 1 [.int .i64 dx, .int .i64 fx, .int .i64 tx, .slice xA xn xc] (by rfl) SL10.out (by simp) (by simp [Value.oneCell']) (by omega) (by omega) (by omega) ?_); intro D4 cd4 w11 own11 hg11 hlie11; have T11 : Turn [] wy w11 := T10.andThen (grown_turn hg11) (fun i hi => .inr ((own_ltA own10 i hi).2)); have z11 := T11.size))
          all_goals
            go_wp2_with (at_builtin; refine wpList_append_sl elemRM rfl _ _ rfl D4 (k + 1) cd4 _ rfl own11 O3 (no - k) (co - k) (mcs (Y.drop k)) rfl (HST2.out.turn0 T11) hl2 hone2.out (by omega) (by omega) (by omega) ?_; intro D5 cd5 w12 own12 hg12 hlie12)
            have T12 : Turn [] w1 w12 := hTc.trans (T11.andThen (grown_turn hg12) (fun j hj => .inr (own_ltA own11 j hj).2))
            have zc := hTc.size
            have zh := hHT1.out.size
            have hD5 := own_ltA own12
            have hR1 := own_ltA R1.out
            have e12 : mcs (Y.take k) ++ [Value.int .i64 dx, Value.int .i64 fx, Value.int .i64 tx, Value.slice xA xn xc] ++ mcs (Y.drop k) = mcs (srt Ml.due ((ms.take (i + 1)).filter (isDue tick))) := by
              rw [HST.out.1, HINS.out, mcs_append, List.append_assoc]
              rfl
            rw [e12] at own12
            go_roundw
            case rel => exact ⟨i + 1, by omega, by go_num, D5, k + 1 + (no - k), cd5, R, nr, cr, rfl, rfl, by omega, by omega, own_down own12 (by omega), by rw [HST.out.2]; exact own_turnA R1.out T12 (by simp), fun j hj hm => by
              have := (hD5 j hj).2
              have := (hR1 j hm).1
              omega, hHT1.out.trans T12⟩
            case measure => simp [intOf]; omega
      · have hd' : isDue tick ms[i] = false := by simpa using hd
        have HST := Lib.hid (stay_step kx hd')
        have g1 : tick < ms[i].due := by have : ¬ ms[i].due ≤ tick := by simpa [isDue] using hd
                                         omega
        clear oO oR hap hT H2 hd hd'
        generalize ms[i] = x at *
        obtain ⟨dx, fx, tx, xA, xn, xc, xs⟩ := x
        simp only at *
        go_wp2_with (at_builtin; refine wpList_append_sl elemRM rfl _ _ rfl R nr cr _ rfl ((OR.out.alloc _).alloc _) (some ⟨wx.heap.size + 1, 0, none⟩) 1 1 [.int .i64 dx, .int .i64 fx, .int .i64 tx, .slice xA xn xc] rfl (by have := Sl.new (wx.alloc (.cells #[.int .i64 dx, .int .i64 fx, .int .i64 tx, .slice xA xn xc] 63)) #[.int .i64 dx, .int .i64 fx, .int .i64 tx, .slice xA xn xc] 63; simpa using this) (by simp) (by simp [Value.oneCell']) (by omega) (by omega) (by simp; omega) ?_; intro R2 cr2 w6 own6 hg6 hlie6)
        have T6 := ((HT.out.alloc (.cells #[.int .i64 dx, .int .i64 fx, .int .i64 tx, .slice xA xn xc] 63)).alloc (.cells #[.int .i64 dx, .int .i64 fx, .int .i64 tx, .slice xA xn xc] 63)).andThen (grown_turn hg6) (fun x hx => .inr (own_ltA OR.out x hx).2)
        go_roundw
        case rel => exact ⟨i + 1, by omega, by go_num, O, no, co, R2, nr + 1, cr2, rfl, rfl, by omega, by omega, by rw [HST.out.1]; exact own_turnA ((OO.out.alloc _).alloc _) (grown_turn hg6) (fun j hj hm => HAP.out j hj hm), by rw [HST.out.2, mcs_append]; exact own6, fun j hj hm => by
          rcases lies_blks hlie6 j hm with h | h
          · exact HAP.out j hj h
          · have := (own_ltA OO.out j hj).1
            subst h
            simp at this
            omega, T6⟩
        case measure => simp [intOf]; omega
    · obtain rfl : i = n := by omega
      have i1 : ¬ (i : Int) < (i : Int) := by omega
      rw [List.take_of_length_le (by have := HN.out.2.1; omega)] at oO oR
      have hO := own_ltA oO
      have hR := own_ltA oR
      have hml : m < w.heap.size := H.out.blk.lt
      have f6 := H2.blk.frozen 6
      have hlO := oO.1
      rw [mcs_len, srt_length] at hlO
      have hnoL : no = (ms.filter (isDue tick)).length := by omega
      obtain ⟨N1, -⟩ := H.out.newA (hT.mono (by simp)) oR hml (fun j hj => .inr (hR j hj).2) (fun x hx => .inl (List.mem_filter.1 hx).1)
      have TS : Turn [m] wx (wx.setCell ⟨m, 6, none⟩ (.slice R nr cr)) := (Turn.refl [m] wx).setCell (.inl (by simp)) _
      have T1 : Turn [m] w (wx.setCell ⟨m, 6, none⟩ (.slice R nr cr)) := (hT.mono (by simp)).trans TS
      have oO1 := own_turnA oO TS (fun j hj hm => by have := (hO j hj).2; simp at hm; omega)
      generalize hw1 : wx.setCell ⟨m, 6, none⟩ (.slice R nr cr) = w1 at *
      have HW1 := Lib.hid hw1
      obtain ⟨bB, gB, oB⟩ := N1.came
      have ml1 := N1.blk.lt
      have hmB : m ∉ blks B := fun hm => (N1.blks_ok m (by simp [hm])).2 rfl
      have HB := Lib.hid (own_down oB (show m + 1 ≤ bB by omega))
      have SLO := Lib.hid (Sl.of_own oO1)
      have HONE := Lib.hid (mcs_one (srt Ml.due (ms.filter (isDue tick))))
      have HLEN : (mcs (srt Ml.due (ms.filter (isDue tick)))).length = no * 4 := by rw [mcs_len, srt_length]; omega
      have HN1 := Lib.hid N1
      have hno2 : no ≤ 100000 := by omega
      have c7 := N1.blk.cell 7
      have c10 := N1.blk.cell 10
      have HH2 := Lib.hid H2
      have HNO := Lib.hid hnoL
      clear oB N1 hw1 oR oO oO1 hnoL hlO
      obtain ⟨-, -, -, -, -, -, c6, -, -, -, -, ml⟩ := H2.cells
      clear H2
      go_upto_region 15 with fail
      rw [HW1.out]
      clear c6 f6 ml
      go_wp2_with (at_builtin; refine wpList_append_sl elemRM rfl _ _ rfl B nb kb _ rfl HB.out O no co (mcs (srt Ml.due (ms.filter (isDue tick)))) rfl SLO.out HLEN HONE.out (by omega) (by omega) (by omega) ?_; intro B' kb' w2 own2 hg2 hlie2; have T12 : Turn (blks B) w1 w2 := grown_turn hg2; have B2 := T12.blk HN1.out.blk hmB; have c72 := B2.cell 7; have f72 := B2.frozen 7; have c102 := B2.cell 10; have f102 := B2.frozen 10; have ml2 := B2.lt)
      have hB' : ∀ j ∈ blks B', j ∈ blks B ∨ w1.heap.size ≤ j := fun j hj => by
        rcases lies_blks hlie2 j hj with h1 | h1
        · exact .inl h1
        · exact .inr (by omega)
      rw [← mcs_append] at own2
      have z1 := T1.size
      have T02 : Turn (m :: blks B) w w2 := (T1.mono (by simp)).trans (T12.mono (by intro x hx; simp [hx]))
      have hoB : ∀ j ∈ blks O, j ∉ m :: blks B := fun j hj hm => by
        have h1 := (hO j hj).2
        rw [List.mem_cons] at hm
        rcases hm with hm | hm
        · omega
        · have := (H.out.blks_ok j (by simp [hm])).1; omega
      have NB := HN1.out.newB T12 own2 (by omega) hB' (fun x hx => by
        rcases List.mem_append.1 hx with hx | hx
        · exact .inr (.inl hx)
        · have hxm : x ∈ ms := (List.mem_filter.1 ((srt_perm _).mem_iff.1 hx)).1
          have h5 := H.out.bytes x (.inl hxm)
          refine .inr (.inr ⟨h5.ok.turn T02 (fun j hj hm => h5.off j hj (by simp at hm ⊢; rcases hm with hm | hm <;> simp [hm])), fun j hj hm => ?_⟩)
          have h6 := h5.off j hj
          have h7 := h5.ok.lt j hj
          simp only [List.mem_cons, List.mem_append, not_or] at h6 hm
          rcases hm with hm | hm | hm | hm
          · exact h6.1 hm
          · have := (hR j hm).2; omega
          · rcases hB' j hm with h8 | h8
            · exact h6.2.2.1 h8
            · omega
          · exact h6.2.2.2 hm)
      have NT := NB.1.setTold (told + ((no : Nat) : Int))
      have T13 := (T1.mono (by simp) : Turn (m :: blks B) w w1).trans (NB.2.trans (NT.2.mono (by simp)))
      have SO2 := SLO.out.turn (NB.2.trans (NT.2.mono (by simp))) (off_blks hoB)
      go_ret
      exact ⟨O, no, ⟨co, by simp⟩, SO2, HNO.out, R, nr, cr, B', ⟨nb + no, kb', by rw [← HNO.out]; exact NT.1⟩, fun j hj => (hR j hj).2, fun j hj => by
        rcases hB' j hj with h1 | h1
        · exact .inl h1
        · exact .inr (by omega), T13⟩
end
end Go.Proofs.Ytiijgokgojjocaa
