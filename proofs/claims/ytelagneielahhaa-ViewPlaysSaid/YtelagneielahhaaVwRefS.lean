/- The reference's set of revoked serials (layer 8). -/
import Derived.Test.YtelagneielahhaaVwRev
namespace Go.Proofs.Ytelagneielahhaa
open Go.RowKit Go.ChangeMaps Go.MapKept

/-- The reference's set at its block. -/
structure RSIs (w : World) (s : Nat) (G : Nat → Lg) : Prop where
  blk : Blk w s 67 #[(G 0).val, (G 1).val, (G 2).val, (G 3).val]
  ok : ∀ i, i < 4 → Sl w (G i).A (i64s (G i).xs) ∧ (G i).xs.length = (G i).n ∧ (G i).n ≤ 256 ∧ ∀ j ∈ blks (G i).A, j < w.heap.size ∧ j ≠ s
theorem RSIs.turn {w w' : World} {s : Nat} {G : Nat → Lg} (h : RSIs w s G) {S : List Nat} (hT : Turn S w w') (hS : s ∉ S) (hS2 : ∀ i, i < 4 → ∀ j ∈ blks (G i).A, j ∉ S) : RSIs w' s G :=
  ⟨hT.blk h.blk hS, fun i hi => ⟨(h.ok i hi).1.turn hT (off_blks (hS2 i hi)), (h.ok i hi).2.1, (h.ok i hi).2.2.1, fun j hj => ⟨Nat.lt_of_lt_of_le ((h.ok i hi).2.2.2 j hj).1 hT.size, ((h.ok i hi).2.2.2 j hj).2⟩⟩⟩
theorem RSIs.turn0 {w w' : World} {s : Nat} {G : Nat → Lg} (h : RSIs w s G) (hT : Turn [] w w') : RSIs w' s G := h.turn hT (by simp) (by simp)
theorem RSIs.cell {w : World} {s : Nat} {G : Nat → Lg} (h : RSIs w s G) {i : Nat} (hi : i < 4) : w.cell? ⟨s, i, none⟩ = some (.slice (G i).A (G i).n (G i).c) := by
  rw [h.blk.cell i]
  match i, hi with
  | 0, _ => rfl
  | 1, _ => rfl
  | 2, _ => rfl
  | 3, _ => rfl
theorem RSIs.setLog {w : World} {s : Nat} {G : Nat → Lg} (h : RSIs w s G) {i : Nat} (hi : i < 4) (l : Lg) (hl : Sl w l.A (i64s l.xs)) (hn : l.xs.length = l.n) (h256 : l.n ≤ 256) (hA : ∀ j ∈ blks l.A, j < w.heap.size ∧ j ≠ s) :
    RSIs (w.setCell ⟨s, i, none⟩ l.val) s (fun j => if j = i then l else G j) ∧ Turn [s] w (w.setCell ⟨s, i, none⟩ l.val) := by
  have T : Turn [s] w (w.setCell ⟨s, i, none⟩ l.val) := (Turn.refl [s] w).setCell (.inl (by simp)) _
  refine ⟨⟨?_, fun j hj => ?_⟩, T⟩
  · have hb := h.blk.set_ i l.val
    match i, hi with
    | 0, _ => simpa using hb
    | 1, _ => simpa using hb
    | 2, _ => simpa using hb
    | 3, _ => simpa using hb
  · by_cases hji : j = i
    · simp only [hji, if_true]
      exact ⟨hl.turn T (off_blks (fun x hx hm => (hA x hx).2 (by simpa using hm))), hn, h256, fun x hx => ⟨Nat.lt_of_lt_of_le (hA x hx).1 T.size, (hA x hx).2⟩⟩
    · simp only [hji, if_false]
      obtain ⟨h1, h2, h3, h4⟩ := h.ok j hj
      exact ⟨h1.turn T (off_blks (fun x hx hm => (h4 x hx).2 (by simpa using hm))), h2, h3, fun x hx => ⟨Nat.lt_of_lt_of_le (h4 x hx).1 T.size, (h4 x hx).2⟩⟩
theorem mem_catL {ls : Nat → List Int} {x : Int} : ∀ {k : Nat}, x ∈ catL ls k ↔ ∃ j, j < k ∧ x ∈ ls j
  | 0 => by simp [catL]
  | k + 1 => by
    rw [catL, List.mem_append, mem_catL (k := k)]
    constructor
    · rintro (⟨j, hj, hx⟩ | hx)
      · exact ⟨j, by omega, hx⟩
      · exact ⟨k, by omega, hx⟩
    · rintro ⟨j, hj, hx⟩
      by_cases h : j = k
      · subst h
        exact .inr hx
      · exact .inl ⟨j, by omega, hx⟩
theorem i64_get {xs : List Int} {k : Nat} (h : k < (i64s xs).length) : (i64s xs)[k] = .int .i64 (xs[k]'(by simpa [i64s] using h)) := by simp [i64s]
set_option maxRecDepth 100000 in
set_option maxHeartbeats 4000000 in
theorem rHas_c {w : World} {s : Nat} {G : Nat → Lg} (h : RSIs w s G) (x : Int) :
    Calls Try.prog 48 #[.pointer (some ⟨s, 0, none⟩), .int .i64 x] w fun e w' => e = .returned (.bool (decide (x ∈ catL (fun i => (G i).xs) 4))) ∧ Turn [] w w' := by
  have H := Lib.hid h
  clear h
  go_enter Try.func48, Try.ntmps48
  go_wp2_with fail
  go_loopw [5] (fun ix wr => ∃ i : Nat, i ≤ 4 ∧ ix = .int .i64 ((i : Nat) : Int) ∧ (∀ j, j < i → x ∉ (G j).xs) ∧ Turn [] w wr) (fun ix _ => 4 - (intOf ix).toNat)
  case atStart => exact ⟨0, by omega, rfl, fun j hj => by omega, Turn.refl _ _⟩
  case round =>
    obtain ⟨i, hi, rfl, hno, hT⟩ := hrel
    obtain ⟨wx, rfl⟩ : ∃ wo : World, wo = wr := ⟨_, rfl⟩
    have i0 : (0 : Int) ≤ (i : Int) := Int.natCast_nonneg _
    have HNO := Lib.hid hno
    clear hno
    by_cases hlt : i < 4
    · have i1 : (i : Int) < 4 := by omega
      have R := H.out.turn0 hT
      obtain ⟨g1, g2, g3, g4⟩ := R.ok i hlt
      have HG1 := Lib.hid g1
      have HR := Lib.hid R
      clear R g1 g4
      go_wp2_with fail
      go_loopw [6] (fun kx wr => ∃ k : Nat, k ≤ (G i).n ∧ kx = .int .i64 ((k : Nat) : Int) ∧ (x ∉ (G i).xs.take k) ∧ Turn [] wx wr) (fun kx _ => (G i).n - (intOf kx).toNat)
      case atStart => exact ⟨0, by omega, rfl, by simp, Turn.refl _ _⟩
      case round =>
        obtain ⟨k, hk, rfl, hnk, hTk⟩ := hrel
        obtain ⟨wy, rfl⟩ : ∃ wo : World, wo = wr := ⟨_, rfl⟩
        have k0 : (0 : Int) ≤ (k : Int) := Int.natCast_nonneg _
        have c0 := (HR.out.turn0 hTk).cell hlt
        have sl := (HR.out.turn0 hTk).blk.lt
        have HNK := Lib.hid hnk
        have HG2 := Lib.hid (HG1.out.turn0 hTk)
        clear hnk
        generalize hgi : G i = gi at *
        obtain ⟨gA, gn, gc, gx⟩ := gi
        simp only at *
        by_cases hkl : k < gn
        · have k1 : (k : Int) < (gn : Int) := by omega
          obtain ⟨b1, o1, rfl, l1, q0⟩ := HG2.out.at_ (k := k) (by simp [i64s]; omega)
          rw [i64_get] at q0
          have htk : gx.take (k + 1) = gx.take k ++ [gx[k]'(by omega)] := List.take_succ_eq_append_getElem (by omega)
          have hmm : gx[k]'(by omega) ∈ gx := List.getElem_mem _
          have HTK := Lib.hid htk
          have HMM := Lib.hid hmm
          clear htk hmm
          generalize gx[k]'(by omega) = y at *
          by_cases hxy : y = x
          · subst hxy
            go_wp2_with fail
            go_ret
            have hd : decide (y ∈ catL (fun i => (G i).xs) 4) = true := decide_eq_true (mem_catL.2 ⟨i, hlt, by rw [hgi]; exact HMM.out⟩)
            exact ⟨by rw [hd]; simp, hT.trans hTk⟩
          · have hxy' : (y == x) = false := by simpa using hxy
            have hne := Lib.hid (show ¬ x ∈ gx.take (k + 1) by rw [HTK.out]; simp; exact ⟨HNK.out, fun h => hxy h.symm⟩)
            go_wp2_with fail
            go_roundw
            case rel => exact ⟨k + 1, by omega, by go_num, hne.out, hTk⟩
            case measure => simp [intOf]; omega
        · have k1 : ¬ (k : Int) < (gn : Int) := by omega
          have hne := Lib.hid (show ∀ j, j < i + 1 → x ∉ (G j).xs from fun j hj => by
            by_cases hji : j = i
            · subst hji
              rw [hgi]
              have h1 := HNK.out
              rwa [List.take_of_length_le (by omega)] at h1
            · exact HNO.out j (by omega))
          go_wp2_with fail
          go_roundw
          case rel => exact ⟨i + 1, by omega, by go_num, hne.out, hT.trans hTk⟩
          case measure => simp [intOf]; omega
    · obtain rfl : i = 4 := by omega
      have i1 : ¬ (4 : Int) < 4 := by omega
      go_wp2_with fail
      go_ret
      have hn : ¬ x ∈ catL (fun i => (G i).xs) 4 := fun hm => by
        obtain ⟨j, hj, hx⟩ := mem_catL.1 hm
        exact HNO.out j hj hx
      exact ⟨by rw [decide_eq_false hn]; simp, hT⟩
/-- The reference's Right at serials. -/
theorem rRight8_c (A : Option Addr) (n c : Nat) (l : List Int) (w : World) (hx : Sl w A (i64s l)) (hn : l.length = n) (hl : n ≤ 1000000) :
    Calls Try.prog 49 #[.slice A n c] w fun e w' => e = .returned (.bool (decide (serOk l))) ∧ Turn [] w w' := by
  go_enter Try.func49, Try.ntmps49
  go_wp2_with fail
  go_loopw [3] (fun ix wr => ∃ i : Nat, i ≤ n ∧ ix = .int .i64 ((i : Nat) : Int) ∧ serOk (l.take i) ∧ Turn [] w wr) (fun ix _ => n - (intOf ix).toNat)
  case atStart => exact ⟨0, by omega, rfl, fun y hy => by simp at hy, Turn.refl _ _⟩
  case round =>
    obtain ⟨k, hk, rfl, hno, hT⟩ := hrel
    obtain ⟨wx, rfl⟩ : ∃ wo : World, wo = wr := ⟨_, rfl⟩
    have k0 : (0 : Int) ≤ (k : Int) := Int.natCast_nonneg _
    have HNO := Lib.hid hno
    clear hno
    by_cases hlt : k < n
    · have k1 : (k : Int) < (n : Int) := by omega
      obtain ⟨b1, o1, rfl, l1, q0⟩ := (hx.turn0 hT).at_ (k := k) (by simp [i64s]; omega)
      rw [i64_get] at q0
      have htk : l.take (k + 1) = l.take k ++ [l[k]'(by omega)] := List.take_succ_eq_append_getElem (by omega)
      have hmm : l[k]'(by omega) ∈ l := List.getElem_mem _
      have HTK := Lib.hid htk
      have HMM := Lib.hid hmm
      clear htk hmm
      generalize l[k]'(by omega) = y at *
      by_cases h1 : y < 1
      · have hf : ¬ serOk l := fun h => by have := (h y HMM.out).1; omega
        have HF := Lib.hid (decide_eq_false hf)
        go_wp2_with fail
        go_ret
        exact ⟨by first | (simp; done) | (rw [HF.out]; simp), hT⟩
      · by_cases h2 : 65535 < y
        · have hf : ¬ serOk l := fun h => by have := (h y HMM.out).2; omega
          have HF := Lib.hid (decide_eq_false hf)
          go_wp2_with fail
          go_ret
          exact ⟨by first | (simp; done) | (rw [HF.out]; simp), hT⟩
        · have hok := Lib.hid (show serOk (l.take (k + 1)) by
            rw [HTK.out]
            intro z hz
            simp at hz
            rcases hz with hz | rfl
            · exact HNO.out z hz
            · omega)
          go_wp2_with fail
          go_roundw
          case rel => exact ⟨k + 1, by omega, by go_num, hok.out, hT⟩
          case measure => simp [intOf]; omega
    · obtain rfl : k = n := by omega
      have k1 : ¬ (k : Int) < (k : Int) := by omega
      have hok : serOk l := by
        have := HNO.out
        rwa [List.take_of_length_le (by omega)] at this
      have HF := Lib.hid (decide_eq_true hok)
      go_wp2_with fail
      go_ret
      exact ⟨by first | (simp; done) | (rw [HF.out]; simp), hT⟩
theorem nodup_snoc {l : List Int} {y : Int} (h : l.Nodup) (hy : y ∉ l) : (l ++ [y]).Nodup := by
  rw [List.nodup_append]
  exact ⟨h, by simp, by intro a ha b hb; simp at hb; subst hb; exact fun e => hy (e ▸ ha)⟩
theorem not_nodup {l : List Int} {i k : Nat} (hi : i < l.length) (hk : k < i) (h : l[i] = l[k]) : ¬ l.Nodup := fun hn => by
  have := (List.pairwise_iff_getElem.1 hn) k i (by omega) hi hk
  exact this h.symm
set_option maxRecDepth 100000 in
set_option maxHeartbeats 4000000 in
theorem rTwice_c (A : Option Addr) (n c : Nat) (l : List Int) (w : World) (hx : Sl w A (i64s l)) (hn : l.length = n) (hl : n ≤ 1000000) :
    Calls Try.prog 50 #[.slice A n c] w fun e w' => e = .returned (.bool (!decide l.Nodup)) ∧ Turn [] w w' := by
  have HX := Lib.hid hx
  clear hx
  go_enter Try.func50, Try.ntmps50
  go_wp2_with fail
  go_loopw [3] (fun ix wr => ∃ i : Nat, i ≤ n ∧ ix = .int .i64 ((i : Nat) : Int) ∧ (l.take i).Nodup ∧ Turn [] w wr) (fun ix _ => n - (intOf ix).toNat)
  case atStart => exact ⟨0, by omega, rfl, by simp, Turn.refl _ _⟩
  case round =>
    obtain ⟨i, hi, rfl, hno, hT⟩ := hrel
    obtain ⟨wx, rfl⟩ : ∃ wo : World, wo = wr := ⟨_, rfl⟩
    have i0 : (0 : Int) ≤ (i : Int) := Int.natCast_nonneg _
    have HNO := Lib.hid hno
    clear hno
    by_cases hlt : i < n
    · have i1 : (i : Int) < (n : Int) := by omega
      go_wp2_with fail
      go_loopw [4] (fun kx wr => ∃ k : Nat, k ≤ i ∧ kx = .int .i64 ((k : Nat) : Int) ∧ (l[i]'(by omega) ∉ l.take k) ∧ Turn [] wx wr) (fun kx _ => i - (intOf kx).toNat)
      case atStart => exact ⟨0, by omega, rfl, by simp, Turn.refl _ _⟩
      case round =>
        obtain ⟨k, hk, rfl, hnk, hTk⟩ := hrel
        obtain ⟨wy, rfl⟩ : ∃ wo : World, wo = wr := ⟨_, rfl⟩
        have k0 : (0 : Int) ≤ (k : Int) := Int.natCast_nonneg _
        have HNK := Lib.hid hnk
        have TT := hT.trans hTk
        clear hnk
        by_cases hkl : k < i
        · have k1 : (k : Int) < (i : Int) := by omega
          have k2 : (k : Int) < (n : Int) := by omega
          obtain ⟨b1, o1, hA, l1, q0⟩ := (HX.out.turn0 TT).at_ (k := k) (by simp [i64s]; omega)
          obtain ⟨b2, o2, hA2, l2, q1⟩ := (HX.out.turn0 TT).at_ (k := i) (by simp [i64s]; omega)
          rw [hA] at hA2
          cases hA2
          subst hA
          rw [i64_get] at q0 q1
          have htk : l.take (k + 1) = l.take k ++ [l[k]'(by omega)] := List.take_succ_eq_append_getElem (by omega)
          have hnn := fun (h : l[i]'(by omega) = l[k]'(by omega)) => not_nodup (by omega) hkl h
          have HTK := Lib.hid htk
          have HNN := Lib.hid hnn
          clear htk hnn
          generalize l[k]'(by omega) = y at *
          generalize hzz : l[i]'(by omega) = z at *
          have HZZ := Lib.hid hzz
          clear hzz
          by_cases hxy : z = y
          · have HF := Lib.hid (decide_eq_false (HNN.out hxy))
            subst hxy
            go_wp2_with fail
            go_quiet (fail)
            go_wp2_with fail
            go_ret
            exact ⟨by first | (simp; done) | (rw [HF.out]; simp), TT.drewN _⟩
          · have hxy' : (z == y) = false := by simpa using hxy
            have hne := Lib.hid (show ¬ z ∈ l.take (k + 1) by rw [HTK.out]; simp; exact ⟨HNK.out, hxy⟩)
            go_wp2_with fail
            go_quiet (fail)
            go_wp2_with fail
            go_roundw
            case rel => exact ⟨k + 1, by omega, by go_num, hne.out, hTk.drewN _⟩
            case measure => simp [intOf]; omega
        · obtain rfl : k = i := by omega
          have k1 : ¬ (k : Int) < (k : Int) := by omega
          have hne := Lib.hid (show (l.take (k + 1)).Nodup by
            rw [List.take_succ_eq_append_getElem (by omega)]
            exact nodup_snoc HNO.out HNK.out)
          go_wp2_with fail
          go_roundw
          case rel => exact ⟨k + 1, by omega, by go_num, hne.out, TT⟩
          case measure => simp [intOf]; omega
    · obtain rfl : i = n := by omega
      have i1 : ¬ (i : Int) < (i : Int) := by omega
      have hok : l.Nodup := by
        have := HNO.out
        rwa [List.take_of_length_le (by omega)] at this
      have HF := Lib.hid (decide_eq_true hok)
      clear hok
      go_wp2_with fail
      go_ret
      exact ⟨by first | (simp; done) | (rw [HF.out]; simp), hT⟩
def RRevoked (w : World) (s : Nat) (G : Nat → Lg) (i : Nat) (l : List Int) (e : Ending) (w' : World) : Prop :=
  ∃ G', e = .returned (.int .i64 (revR (G i).xs l).1) ∧ RSIs w' s G' ∧ (∀ j, j ≠ i → G' j = G j) ∧ (G' i).xs = (revR (G i).xs l).2 ∧ (∀ j, ∀ x ∈ blks (G' j).A, x ∈ blks (G j).A ∨ w.heap.size ≤ x) ∧ Turn [s] w w'
set_option maxRecDepth 100000 in
set_option maxHeartbeats 4000000 in
theorem rRevoke_c {w : World} {s : Nat} {G : Nat → Lg} (h : RSIs w s G) (i : Nat) (hi : i < 4) (A : Option Addr) (n c : Nat) (l : List Int) (hx : Sl w A (i64s l)) (hn : l.length = n) (hl : n ≤ 1000) :
    Calls Try.prog 34 #[.pointer (some ⟨s, 0, none⟩), .int .i64 ((i : Nat) : Int), .slice A n c] w (RRevoked w s G i l) := by
  have SE := rRight8_c A n c l w hx hn (by omega)
  have i0 : (0 : Int) ≤ (i : Int) := Int.natCast_nonneg _
  have i1 : (i : Int) < 4 := by omega
  have HS := Lib.hid h
  have HX := Lib.hid hx
  have HN := Lib.hid hn
  have hsl := h.blk.lt
  clear hx hn
  unfold RRevoked
  by_cases hser : serOk l
  · have hd : decide (serOk l) = true := by simpa using hser
    rw [hd] at SE
    have HSE := Lib.hid SE
    have HOK := Lib.hid hser
    clear SE hd hser
    go_enter Try.func34, Try.ntmps34
    go_wp2_with fail
    refine HSE.out.mono ?_
    rintro e w1 ⟨rfl, hT1⟩
    have S1 := HS.out.turn0 hT1
    have c0 := S1.cell hi
    obtain ⟨g1, g2, g3, g4⟩ := S1.ok i hi
    have HS1 := Lib.hid S1
    have HT1 := Lib.hid hT1
    have sl1 := S1.blk.lt
    have HG1 := Lib.hid g1
    clear S1 hT1 g1 g4 h
    generalize hgi : G i = gi at *
    have HGI := Lib.hid hgi
    clear hgi
    obtain ⟨gA, gn, gc, gx⟩ := gi
    simp only at c0 g2 g3
    simp only
    have h0 := World.ownsRow_lit (base := w1.heap.size) (e := 3) (size := 1) w1 #[] 0 (Nat.le_refl _) (by simp) rfl
    have H0 := Lib.hid h0
    have hgl := Lib.hid (show (i64s gx).length = gn * 1 by rw [i64s_len, g2, Nat.mul_one])
    have hnl := Lib.hid (show (i64s l).length = n * 1 by rw [i64s_len, HN.out, Nat.mul_one])
    clear h0
    go_wp2_with (at_builtin; first
      | (refine wpList_append_sl elemI rfl _ _ rfl _ 0 _ [] rfl H0.out gA gn gc (i64s gx) rfl (HG1.out.alloc _) hgl.out (i64s_one _) (by omega) (by omega) (by simp) ?_; intro D1 d1 wa own1 hg1 hlie1; rw [Nat.zero_add, List.nil_append] at own1; have Ta : Turn [] w1 wa := ((Turn.refl [] w1).alloc _).andThen (Turn.of_grown (S := [w1.heap.size]) hg1 (by simp)) (by simp); have HX2 := Lib.hid (HX.out.turn0 (HT1.out.trans Ta)))
      | (refine wpList_append_sl elemI rfl _ _ rfl D1 gn d1 (i64s gx) rfl own1 A n c (i64s l) rfl HX2.out hnl.out (i64s_one _) (by omega) (by omega) Ta.size ?_; intro D cd w2 oD0 hg2 hlie2; have Tb : Turn [] w1 w2 := Ta.andThen (grown_turn hg2) (fun j hj => .inr (own_ltA own1 j hj).2)))
    generalize hm0 : gn + n = m at *
    have oD : w2.ownsRow w1.heap.size 3 1 (.slice D m cd) m (i64s (gx ++ l)) := by
      have : i64s (gx ++ l) = i64s gx ++ i64s l := by simp [i64s]
      rw [this]
      exact oD0
    have hm := own_i64 oD
    have hDl := own_ltA oD
    have T2 := HT1.out.trans Tb
    have S2 := HS.out.turn0 T2
    have HS2 := Lib.hid S2
    have HD := Lib.hid oD
    have HT2 := Lib.hid T2
    have hml : m ≤ 1256 := by rw [List.length_append] at hm; have := HN.out; omega
    have TW := rTwice_c D m cd (gx ++ l) w2 (Sl.of_own oD) hm (by omega)
    have HM := Lib.hid hm
    have sl2 := S2.blk.lt
    have f2 := S2.blk.frozen i
    clear oD S2 T2 hm
    by_cases hnd : (gx ++ l).Nodup
    · have hd : (!decide (gx ++ l).Nodup) = false := by simpa using hnd
      rw [hd] at TW
      have HTW := Lib.hid TW
      have HND := Lib.hid hnd
      clear TW hd hnd c0
      go_wp2_with fail
      refine HTW.out.mono ?_
      rintro e w3 ⟨rfl, hT3⟩
      have S3 := HS2.out.turn0 hT3
      have c3 := S3.cell hi
      have sl3 := S3.blk.lt
      have f3 := S3.blk.frozen i
      have HS3 := Lib.hid S3
      have HT3 := Lib.hid (HT2.out.trans hT3)
      have HD3 := Lib.hid (own_turnA HD.out hT3 (by simp))
      have hz3 := hT3.size
      clear S3 hT3
      by_cases h256 : 256 < m
      · have RS : Hid (revR (G i).xs l = (6, gx)) := by
          show _ = _
          rw [HGI.out]
          unfold revR
          rw [if_neg (fun hh => hh HOK.out), if_neg (fun hh => hh HND.out), if_pos (by rw [HM.out]; exact h256)]
        have m1 : (256 : Int) < (m : Int) := by omega
        go_wp2_with fail
        go_ret
        exact ⟨G, by rw [RS.out]; simp, HS3.out, fun _ _ => rfl, by rw [RS.out, HGI.out], fun j x hx => .inl hx, HT3.out.mono (by simp)⟩
      · have RS : Hid (revR (G i).xs l = (0, gx ++ l)) := by
          show _ = _
          rw [HGI.out]
          unfold revR
          rw [if_neg (fun hh => hh HOK.out), if_neg (fun hh => hh HND.out), if_neg (by rw [HM.out]; exact h256)]
        have m1 : ¬ (256 : Int) < (m : Int) := by omega
        have SL := Lib.hid (HS3.out.setLog hi ⟨D, m, cd, gx ++ l⟩ (Sl.of_own HD3.out) HM.out (by show m ≤ 256; omega) (fun x hx => ⟨(own_ltA HD3.out x hx).1, by have h1 := (hDl x hx).2; have h2 := HS1.out.blk.lt; omega⟩))
        unfold Lg.val at SL
        simp only at SL
        go_wp2_with fail
        go_ret
        refine ⟨_, by rw [RS.out]; simp, SL.out.1, fun j hj => by simp [hj], by simp [RS.out], fun j x hx => ?_, (HT3.out.mono (by simp)).trans SL.out.2⟩
        by_cases hji : j = i
        · simp only [hji, if_true] at hx
          right
          have := (hDl x hx).2
          have := HT1.out.size
          omega
        · simp only [hji, if_false] at hx
          exact .inl hx
    · have hd : (!decide (gx ++ l).Nodup) = true := by simpa using hnd
      have RS : Hid (revR (G i).xs l = (8, gx)) := by
        show _ = _
        rw [HGI.out]
        unfold revR
        rw [if_neg (fun hh => hh HOK.out), if_pos hnd]
      rw [hd] at TW
      have HTW := Lib.hid TW
      clear TW hd hnd c0
      go_wp2_with fail
      refine HTW.out.mono ?_
      rintro e w3 ⟨rfl, hT3⟩
      go_wp2_with fail
      go_ret
      exact ⟨G, by rw [RS.out]; simp, HS2.out.turn0 hT3, fun _ _ => rfl, by rw [RS.out, HGI.out], fun j x hx => .inl hx, (HT2.out.trans hT3).mono (by simp)⟩
  · have hd : decide (serOk l) = false := by simpa using hser
    have RS : Hid (revR (G i).xs l = (10, (G i).xs)) := by
      show _ = _
      unfold revR
      rw [if_pos hser]
    rw [hd] at SE
    have HSE := Lib.hid SE
    clear SE hd hser h
    go_enter Try.func34, Try.ntmps34
    go_wp2_with fail
    refine HSE.out.mono ?_
    rintro e w1 ⟨rfl, hT1⟩
    go_wp2_with fail
    go_ret
    exact ⟨G, by rw [RS.out]; simp, HS.out.turn0 hT1, fun _ _ => rfl, by rw [RS.out], fun j x hx => .inl hx, hT1.mono (by simp)⟩
end Go.Proofs.Ytelagneielahhaa
