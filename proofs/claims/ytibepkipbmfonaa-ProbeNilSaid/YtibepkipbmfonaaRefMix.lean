/- Contracts of vigilref21.Draws: Next, Mix. -/
import Derived.Test.YtibepkipbmfonaaProbeK
namespace Go.Proofs.Ytibepkipbmfonaa
open Go.RowKit Go.ChangeMaps

theorem tq (x k : Int) (hk : 0 < k) : IntKind.u64.wrap ((IntKind.u64.wrap x).tdiv k) = IntKind.u64.wrap x / k := by
  have h := u64_range x
  have h1 : (IntKind.u64.wrap x).tdiv k = IntKind.u64.wrap x / k := Int.tdiv_eq_ediv_of_nonneg h.1
  have h2 : 0 ≤ IntKind.u64.wrap x / k := Int.ediv_nonneg h.1 (by omega)
  have h3 : IntKind.u64.wrap x / k ≤ IntKind.u64.wrap x := Int.ediv_le_self k h.1
  rw [h1]
  generalize IntKind.u64.wrap x / k = q at *
  rw [IntKind.wrap_u64]
  omega

set_option maxRecDepth 100000 in
set_option maxHeartbeats 1000000 in
theorem rdnext_c (d : Nat) (s : Int) (w : World) (hd : Blk w d 38 #[.int .u64 s]) :
    Calls Try.prog 17 #[.pointer (some ⟨d, 0, none⟩)] w fun e w' => e = .returned (.int .u64 (dval (dstep s))) ∧ Blk w' d 38 #[.int .u64 (dstep s)] ∧ Turn [d] w w' := by
  have c0 := hd.cell 0
  have f0 := hd.frozen 0
  go_enter Try.func17, Try.ntmps17
  go_wp2_with fail
  go_ret
  exact ⟨by unfold dval dmul dstep; simp only [tq _ _ (by decide : (0 : Int) < 1073741824), tq _ _ (by decide : (0 : Int) < 134217728), tq _ _ (by decide : (0 : Int) < 2147483648)]; rfl, hd.set_ 0 _, (Turn.refl _ _).setCell (.inl (by simp)) _⟩

def RMixed (w : World) (d : Nat) (n : Nat) (r : Int × List Int) (e : Ending) (w' : World) : Prop :=
  ∃ A' c', e = .returned (.slice A' n c') ∧ w'.ownsRow w.heap.size 3 1 (.slice A' n c') n (i64s r.2) ∧ Blk w' d 38 #[.int .u64 r.1] ∧ Turn [d] w w'

set_option maxRecDepth 100000 in
set_option maxHeartbeats 1000000 in
theorem rmix_c (d : Nat) (s : Int) (A : Option Addr) (n c : Nat) (xs : List Int) (w : World) (hd : Blk w d 38 #[.int .u64 s]) (hx : Sl w A (i64s xs)) (hn : xs.length = n) (hl : n ≤ 17592186044416) :
    Calls Try.prog 19 #[.pointer (some ⟨d, 0, none⟩), .slice A n c] w (RMixed w d n (mixL s xs)) := by
  have HN := Lib.hid hn
  have h0 := World.ownsRow_lit (base := w.heap.size) (e := 3) (size := 1) w #[] 0 (Nat.le_refl _) (by simp) rfl
  have H0 := Lib.hid h0
  have hone := Lib.hid (i64s_one xs)
  have hlen := Lib.hid (i64s_len xs)
  have hlt := hd.lt
  clear hn h0
  go_enter Try.func19, Try.ntmps19
  go_wp2_with (at_builtin; go_must (refine wpList_append_sl elemI rfl _ _ rfl _ 0 _ [] rfl H0.out A n c (i64s xs) rfl (hx.alloc _) (by rw [hlen.out, Nat.mul_one, HN.out]) hone.out (by omega) (by omega) (by simp) ?_); intro A' c' w1 hown0 hg hlie)
  by_cases hn0 : n = 0
  · subst hn0
    have hx0 : xs = [] := List.eq_nil_of_length_eq_zero HN.out
    subst hx0
    go_wp2_with fail
    go_loopw [6] (fun i wr => i = .int .i64 (-1) ∧ wr = w1) (fun _ _ => 0)
    case atStart => exact ⟨rfl, rfl⟩
    case round =>
      obtain ⟨rfl, rfl⟩ := hrel
      go_wp2_with fail
      go_ret
      refine ⟨A', c', by simp, by have h := hown0; simp at h; exact h, ?_, ?_⟩
      · exact ((Turn.of_grown (S := [w.heap.size]) hg (by simp)).blk (hd.alloc _) (by simp; omega))
      · exact ((Turn.refl [d] w).alloc _).andThen (Turn.of_grown (S := [w.heap.size]) hg (by simp)) (by simp)
  · rw [Nat.zero_add] at hown0
    obtain ⟨g, cap, hv, hg1, hg2⟩ := hown0.form (by omega)
    obtain ⟨rfl, rfl⟩ : A' = some ⟨g, 0, none⟩ ∧ c' = cap := by simpa using hv
    clear hv
    have hd1 := ((Turn.of_grown (S := [w.heap.size]) hg (by simp)).blk (hd.alloc (.cells #[] 3)) (by simp; omega))
    have hT : Turn [d] w w1 := ((Turn.refl [d] w).alloc _).andThen (Turn.of_grown (S := [w.heap.size]) hg (by simp)) (by simp)
    have hdg : d ≠ g := by omega
    go_wp2_with fail
    go_loopw [6] (fun i wr => ∃ (k : Nat) (st : Int) (ys : List Int), k < n ∧ i = .int .i64 k ∧ Hid (mixGo k st ys = mixL s xs) ∧ Hid (ys.length = n) ∧ wr.ownsRow w.heap.size 3 1 (.slice (some ⟨g, 0, none⟩) n c') n (i64s ys) ∧ Blk wr d 38 #[.int .u64 st] ∧ Turn [d] w wr) (fun i _ => (intOf i).toNat)
    case atStart => exact ⟨n - 1, s, xs, by omega, by go_num, Lib.hid (by unfold mixL; rw [HN.out]), HN, by simpa using hown0, hd1, hT⟩
    case round =>
      obtain ⟨k, st, ys, hk, rfl, HM, HL, ho, hb, hTr⟩ := hrel
      by_cases k0 : k = 0
      · subst k0
        go_wp2_with fail
        go_ret
        refine ⟨some ⟨g, 0, none⟩, c', by simp, ?_, ?_, hTr⟩
        · rw [← HM.out]; exact ho
        · rw [← HM.out]; exact hb
      · have kp : 0 < k := by omega
        have BL := Lib.hid (rdnext_c d st wr hb)
        have hr := dbelow_range (n := (k : Int) + 1) (s := st) (by omega)
        have hvr := dval_range (dstep st)
        have HM' := mixGo_pos kp st ys
        rw [HM.out] at HM'
        have hw1 : IntKind.u64.wrap ((k : Int) + 1) = (k : Int) + 1 := by rw [IntKind.wrap_u64]; omega
        have hwi : IntKind.i64.wrap ((k : Int) + 1) = (k : Int) + 1 := IntWalk.i64_in _ (by omega)
        have hn : wrap64 (dval (dstep st) % ((k : Int) + 1)) = dbelow ((k : Int) + 1) st := IntWalk.wrap64_in _ ⟨by unfold dbelow at hr; omega, by unfold dbelow at hr; omega⟩
        generalize dval (dstep st) = v at *
        generalize dbelow ((k : Int) + 1) st = j0 at *
        obtain ⟨j, rfl⟩ := Int.eq_ofNat_of_zero_le hr.1
        have hj : j ≤ k := by omega
        rw [Int.toNat_natCast] at HM'
        have HM2 := Lib.hid HM'.symm
        clear hr HM' HM k0
        go_wp2_with fail
        refine BL.out.mono ?_
        rintro e w2 ⟨rfl, hb2, hT2⟩
        have ho2 := ho.kept (row := some d) ⟨hT2.os, hT2.tape, hT2.output, hT2.size, fun i hi hne => hT2.block i hi (by simpa using hne)⟩ (by simp [Value.ownBlock]; omega)
        have hTr2 := hTr.trans hT2
        clear ho hb hTr hT2
        have ck := ho2.cellAt k (by omega)
        have cj := ho2.cellAt j (by omega)
        have fk := ho2.frozenAt k
        have fj := ho2.frozenAt j
        have ek : (i64s ys)[k]? = some (.int .i64 (ys.getD k 0)) := by
          have : k < ys.length := by rw [HL.out]; exact hk
          simp [i64s, List.getD, this]
        have ej : (i64s ys)[j]? = some (.int .i64 (ys.getD j 0)) := by
          have : j < ys.length := by rw [HL.out]; omega
          simp [i64s, List.getD, this]
        rw [ek] at ck
        rw [ej] at cj
        have b0 : (0 : Int) ≤ (k : Int) := by omega
        have b1 : (k : Int) < (n : Int) := by omega
        have b2 : (0 : Int) ≤ (j : Int) := by omega
        have b3 : (j : Int) < (n : Int) := by omega
        clear ek ej
        generalize hyk : ys.getD k 0 = yk at *
        generalize hyj : ys.getD j 0 = yj at *
        have HK := Lib.hid hyk
        have HJ := Lib.hid hyj
        clear hyk hyj
        have ho3 := (ho2.stored k (.int .i64 yj)).1
        obtain ⟨u3, c3⟩ : ∃ u, (w2.setCell ⟨g, k, none⟩ (.int .i64 yj)).cell? ⟨g, j, none⟩ = some u := by
          rw [ho3.cellAt j (by omega)]
          exact ⟨_, List.getElem?_eq_getElem (by have := ho3.1; omega)⟩
        have f3 := ho3.frozenAt j
        have ho4 := (ho3.stored j (.int .i64 yk)).1
        have HO := Lib.hid ho4
        clear ho3 ho4
        go_wp2_with fail
        go_roundw
        case rel =>
          refine ⟨k - 1, dstep st, swapL ys k j, by omega, by go_num, HM2, by show (swapL ys k j).length = n; rw [swapL_length]; exact HL.out, ?_, ?_, ?_⟩
          · have e : i64s (swapL ys k j) = ((i64s ys).set k (.int .i64 yj)).set j (.int .i64 yk) := by
              unfold swapL i64s
              rw [HK.out, HJ.out, List.map_set, List.map_set]
            rw [e]
            exact HO.out
          · exact ((hb2.far (p := ⟨g, k, none⟩) hdg _).far (p := ⟨g, j, none⟩) hdg _)
          · exact ((hTr2.setCell (p := ⟨g, k, none⟩) (.inr hg1) _).setCell (p := ⟨g, j, none⟩) (.inr hg1) _)
        case measure => simp [intOf]; omega
end Go.Proofs.Ytibepkipbmfonaa
