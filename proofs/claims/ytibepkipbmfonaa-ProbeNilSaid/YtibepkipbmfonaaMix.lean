/- Contract of (*Draws).Mix. -/
import Derived.Test.YtibepkipbmfonaaInts
import Derived.RegionTactic
import Derived.BigRegion
namespace Go.Proofs.Ytibepkipbmfonaa
open Go.RowKit Go.ChangeMaps

def swapL (l : List Int) (i k : Nat) : List Int := (l.set i (l.getD k 0)).set k (l.getD i 0)
def mixGo : Nat → Int → List Int → Int × List Int
  | 0, s, l => (s, l)
  | i + 1, s, l => mixGo i (dstep s) (swapL l (i + 1) (dbelow ((i + 1 : Nat) + 1) s).toNat)
def mixL (s : Int) (l : List Int) : Int × List Int := mixGo (l.length - 1) s l

theorem swapL_length (l : List Int) (i k : Nat) : (swapL l i k).length = l.length := by simp [swapL]
theorem swapL_perm {l : List Int} {i k : Nat} (hi : i < l.length) (hk : k < l.length) : (swapL l i k).Perm l := by
  unfold swapL
  have h1 : l.getD k 0 = l[k] := by simp [List.getD, hk]
  have h2 : l.getD i 0 = l[i] := by simp [List.getD, hi]
  rw [h1, h2]
  exact List.set_set_perm hi hk
theorem mixGo_perm : ∀ (i : Nat) (s : Int) (l : List Int), i < l.length → (mixGo i s l).2.Perm l
  | 0, s, l, _ => List.Perm.refl _
  | i + 1, s, l, h => by
    have hb := dbelow_range (n := ((i + 1 : Nat) : Int) + 1) (s := s) (by omega)
    unfold mixGo
    refine (mixGo_perm i _ _ (by rw [swapL_length]; omega)).trans (swapL_perm h ?_)
    omega
theorem mixL_perm (s : Int) (l : List Int) : (mixL s l).2.Perm l := by
  unfold mixL
  rcases Nat.eq_zero_or_pos l.length with h | h
  · rw [h]; exact List.Perm.refl _
  · exact mixGo_perm _ _ _ (by omega)
theorem mixL_length (s : Int) (l : List Int) : (mixL s l).2.length = l.length := (mixL_perm s l).length_eq

theorem mixGo_pos {k : Nat} (h : 0 < k) (s : Int) (l : List Int) : mixGo k s l = mixGo (k - 1) (dstep s) (swapL l k (dbelow ((k : Int) + 1) s).toNat) := by
  cases k with
  | zero => omega
  | succ k => rfl

def Mixed (w : World) (d : Nat) (n : Nat) (r : Int × List Int) (e : Ending) (w' : World) : Prop :=
  ∃ A' c', e = .returned (.slice A' n c') ∧ w'.ownsRow w.heap.size 3 1 (.slice A' n c') n (i64s r.2) ∧ Blk w' d 56 #[.int .u64 r.1] ∧ Turn [d] w w'

set_option maxRecDepth 100000 in
set_option maxHeartbeats 1000000 in
theorem mix_c (d : Nat) (s : Int) (A : Option Addr) (n c : Nat) (xs : List Int) (w : World) (hd : Blk w d 56 #[.int .u64 s]) (hx : Sl w A (i64s xs)) (hn : xs.length = n) (hl : n ≤ 17592186044416) :
    Calls Try.prog 21 #[.pointer (some ⟨d, 0, none⟩), .slice A n c] w (Mixed w d n (mixL s xs)) := by
  have CL := Lib.hid (cloneI_c A n c xs w hx hn hl)
  have HN := Lib.hid hn
  clear hn
  by_cases h0 : n = 0
  · subst h0
    have hx0 : xs = [] := List.eq_nil_of_length_eq_zero HN.out
    subst hx0
    go_enter Try.func21, Try.ntmps21
    go_wp2_with fail
    refine CL.out.mono ?_
    rintro e w1 ⟨A', c', rfl, hown, hT⟩
    go_wp2_with fail
    have hd1 := hT.blk hd (by simp)
    go_loopw [6] (fun i wr => i = .int .i64 (-1) ∧ wr = w1) (fun _ _ => 0)
    case atStart => exact ⟨rfl, rfl⟩
    case round =>
      obtain ⟨rfl, rfl⟩ := hrel
      go_wp2_with fail
      go_ret
      exact ⟨A', c', by simp, hown, hd1, hT.mono (by simp)⟩
  · go_enter Try.func21, Try.ntmps21
    go_wp2_with fail
    refine CL.out.mono ?_
    rintro e w1 ⟨A', c', rfl, hown, hT⟩
    obtain ⟨g, cap, hv, hg1, hg2⟩ := hown.form (by omega)
    obtain ⟨rfl, rfl⟩ : A' = some ⟨g, 0, none⟩ ∧ c' = cap := by simpa using hv
    clear hv
    have hd1 := hT.blk hd (by simp)
    have hlt := hd.lt
    go_wp2_with fail
    have hdg : d ≠ g := by omega
    go_loopw [6] (fun i wr => ∃ (k : Nat) (st : Int) (ys : List Int), k < n ∧ i = .int .i64 k ∧ Hid (mixGo k st ys = mixL s xs) ∧ Hid (ys.length = n) ∧ wr.ownsRow w.heap.size 3 1 (.slice (some ⟨g, 0, none⟩) n c') n (i64s ys) ∧ Blk wr d 56 #[.int .u64 st] ∧ Turn [d] w wr) (fun i _ => (intOf i).toNat)
    case atStart => exact ⟨n - 1, s, xs, by omega, by go_num, Lib.hid (by unfold mixL; rw [HN.out]), HN, hown, hd1, hT.mono (by simp)⟩
    case round =>
      obtain ⟨k, st, ys, hk, rfl, HM, HL, ho, hb, hTr⟩ := hrel
      by_cases k0 : k = 0
      · subst k0
        go_wp2_with fail
        go_ret
        refine ⟨some ⟨g, 0, none⟩, c', by simp, ?_, ?_, hTr⟩
        · rw [← HM.out]; exact ho
        · rw [← HM.out]; exact hb
      · have kp : 0 < k := by omega
        have BL := Lib.hid (below_c d st ((k : Int) + 1) wr hb (by omega) (by omega))
        have hr := dbelow_range (n := (k : Int) + 1) (s := st) (by omega)
        have HM' := mixGo_pos kp st ys
        rw [HM.out] at HM'
        generalize dbelow ((k : Int) + 1) st = j0 at *
        obtain ⟨j, rfl⟩ := Int.eq_ofNat_of_zero_le hr.1
        have hj : j ≤ k := by omega
        rw [Int.toNat_natCast] at HM'
        have HM2 := Lib.hid HM'.symm
        clear hr HM' HM k0
        go_wp2_with fail
        refine BL.out.mono ?_
        rintro e w2 ⟨rfl, hb2, hT2⟩
        have ho2 := ho.kept (row := some d) ⟨hT2.os, hT2.tape, hT2.output, hT2.size, fun i hi hne => hT2.block i hi (by simpa using hne)⟩ (by simp [Value.ownBlock]; omega)
        have hTr2 := hTr.trans hT2
        clear ho hb hTr hT2
        have ck := ho2.cellAt k (by omega)
        have cj := ho2.cellAt j (by omega)
        have fk := ho2.frozenAt k
        have fj := ho2.frozenAt j
        have ek : (i64s ys)[k]? = some (.int .i64 (ys.getD k 0)) := by
          have : k < ys.length := by rw [HL.out]; exact hk
          simp [i64s, List.getD, this]
        have ej : (i64s ys)[j]? = some (.int .i64 (ys.getD j 0)) := by
          have : j < ys.length := by rw [HL.out]; omega
          simp [i64s, List.getD, this]
        rw [ek] at ck
        rw [ej] at cj
        have b0 : (0 : Int) ≤ (k : Int) := by omega
        have b1 : (k : Int) < (n : Int) := by omega
        have b2 : (0 : Int) ≤ (j : Int) := by omega
        have b3 : (j : Int) < (n : Int) := by omega
        clear ek ej
        generalize hyk : ys.getD k 0 = yk at *
        generalize hyj : ys.getD j 0 = yj at *
        have HK := Lib.hid hyk
        have HJ := Lib.hid hyj
        clear hyk hyj
        go_wp2_with fail
        have ho3 := (ho2.stored k (.int .i64 yj)).1
        obtain ⟨u3, c3⟩ : ∃ u, (w2.setCell ⟨g, k, none⟩ (.int .i64 yj)).cell? ⟨g, j, none⟩ = some u := by
          rw [ho3.cellAt j (by omega)]
          exact ⟨_, List.getElem?_eq_getElem (by have := ho3.1; omega)⟩
        have f3 := ho3.frozenAt j
        have ho4 := (ho3.stored j (.int .i64 yk)).1
        have HO := Lib.hid ho4
        clear ho2 ho3 ho4
        go_region
        go_wp2_with fail
        go_roundw
        case rel =>
          refine ⟨k - 1, dstep st, swapL ys k j, by omega, by go_num, HM2, by show (swapL ys k j).length = n; rw [swapL_length]; exact HL.out, ?_, ?_, ?_⟩
          · have e : i64s (swapL ys k j) = ((i64s ys).set k (.int .i64 yj)).set j (.int .i64 yk) := by
              unfold swapL i64s
              rw [HK.out, HJ.out, List.map_set, List.map_set]
            rw [e]
            exact HO.out
          · exact ((hb2.far (p := ⟨g, k, none⟩) hdg _).far (p := ⟨g, j, none⟩) hdg _)
          · exact ((hTr2.setCell (p := ⟨g, k, none⟩) (.inr hg1) _).setCell (p := ⟨g, j, none⟩) (.inr hg1) _).drew
        case measure => simp [intOf]; omega
end Go.Proofs.Ytibepkipbmfonaa
