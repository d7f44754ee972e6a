/- slices.SortStableFunc of mails by due. -/
import Derived.Test.YtiijgokgojjocaaMSymC
namespace Go.Proofs.Ytiijgokgojjocaa
open Go.RowKit Go.ChangeMaps Srt

section
variable {α : Type} {f : α → Int}
theorem blk_step {s : Nat} (hs : 0 < s) (X : List α) {a q : Nat} (ha : a = q * s) (h : a + s ≤ X.length) : blsA f s (X.take (a + s)) = blsA f s (X.take a) ++ srt f ((X.drop a).take s) := by
  rw [List.take_add, blsA_snoc s hs _ _ q (by rw [List.length_take]; omega), blsA_small s hs ((X.drop a).take s) (by rw [List.length_take]; omega)]
theorem blk_last {s : Nat} (hs : 0 < s) (X : List α) {a q : Nat} (ha : a = q * s) (h : a ≤ X.length) (h2 : X.length ≤ a + s) : blsA f s X = blsA f s (X.take a) ++ srt f (X.drop a) := by
  have e := blsA_snoc (f := f) s hs (X.take a) (X.drop a) q (by rw [List.length_take]; omega)
  rw [List.take_append_drop] at e
  rw [e, blsA_small s hs (X.drop a) (by rw [List.length_drop]; omega)]
theorem blk_two {s : Nat} (hs : 0 < s) (D : List α) : blsA f s D = srt f (D.take s) ++ (srt f ((D.drop s).take s) ++ blsA f s (D.drop (2 * s))) := by
  rw [blsA_cons s hs D, blsA_cons s hs (D.drop s), List.drop_drop, show s + s = 2 * s by omega]
theorem mrg_two (s : Nat) (D : List α) : mrg f (srt f (D.take s)) (srt f ((D.drop s).take s)) = srt f (D.take (2 * s)) := by
  rw [mrg_srt, show 2 * s = s + s by omega, List.take_add]
theorem mem_srt {l : List α} {x : α} : x ∈ srt f l ↔ x ∈ l := (srt_perm l).mem_iff
end

set_option maxRecDepth 100000 in
set_option maxHeartbeats 4000000 in
theorem stable_c (g base n cap : Nat) (X : List Ml) (w : World) (h : RowM w g base n cap X) (hD : ∀ m ∈ X, DueOk m) (hN : n ≤ 1000000) :
    Calls Try.prog 43 #[.slice (some ⟨g, 0, none⟩) n cap, .int .i64 n, cmpV] w (Swapped w g base n cap (srt Ml.due X)) := by
  have HH := Lib.hid h
  have HD := Lib.hid hD
  have HX := Lib.hid h.len
  have SM := Lib.hid (symM_c g base n cap hN)
  clear h hD
  go_enter Try.func43, Try.ntmps43
  go_wp2_with fail
  go_loopw [7, 8] (fun x y wr => ∃ a b : Nat, x = .int .i64 a ∧ y = .int .i64 b ∧ b = a + 20 ∧ a ≤ n ∧ (∃ q, a = q * 20) ∧ RowM wr g base n cap (blsA Ml.due 20 (X.take a) ++ X.drop a) ∧ Turn [g] w wr) (fun x y _ => n + 20 - (intOf y).toNat)
  case atStart => exact ⟨0, 20, rfl, rfl, rfl, by omega, ⟨0, rfl⟩, by simpa [blsA_nil] using HH.out, Turn.refl _ _⟩
  case round =>
    obtain ⟨a, b, rfl, rfl, hb, han, ⟨q, hq⟩, R, hT⟩ := hrel
    obtain ⟨w1, rfl⟩ : ∃ wo : World, wo = wr := ⟨_, rfl⟩
    have HR := Lib.hid R
    have HB := Lib.hid hb
    have HQ := Lib.hid hq
    have hab : a + 20 ≤ b := by omega
    have hPl : (blsA Ml.due 20 (X.take a)).length = a := by rw [bls_length 20 (by omega), List.length_take, HX.out]; omega
    have HPl := Lib.hid hPl
    clear hb hq R hPl
    by_cases hlt : b ≤ n
    · have i1 : (b : Int) ≤ (n : Int) := by omega
      have i2 : ¬ (n : Int) < (b : Int) := by omega
      obtain ⟨b', hb'⟩ : ∃ b' : Nat, b' = b + 20 := ⟨_, rfl⟩
      have s1 : IntKind.i64.wrap ((b : Int) + 20) = (b' : Int) := by rw [IntWalk.i64_in _ (by omega)]; omega
      have HB' := Lib.hid hb'
      clear hb'
      have INS := Lib.hid (fun (x y : Int) => insS_c g base n cap (blsA Ml.due 20 (X.take a)) ((X.drop a).take 20) (X.drop b) w1 (by
        have := HR.out
        rw [show X.drop a = (X.drop a).take 20 ++ X.drop b by rw [HB.out, ← List.drop_drop, List.take_append_drop]] at this
        exact this) (fun m hm => HD.out m (List.mem_of_mem_drop (List.mem_of_mem_take hm))) hN x y)
      go_wp2_with fail
      refine (INS.out _ _ (by rw [HPl.out]) (by rw [HPl.out, List.length_take, List.length_drop, HX.out]; have := HB.out; omega)).mono ?_
      rintro e w2 ⟨rfl, R2, hT2⟩
      go_wp2_with fail
      go_roundw
      case rel => exact ⟨b, b', rfl, rfl, HB'.out, hlt, ⟨q + 1, by have := HB.out; have := HQ.out; omega⟩, by
        rw [HB.out, blk_step (by omega) X HQ.out (by have := HB.out; have := HX.out; omega), List.append_assoc, ← HB.out]
        exact R2, hT.trans hT2⟩
      case measure => simp [intOf]; have := HB'.out; omega
    · have i1 : ¬ (b : Int) ≤ (n : Int) := by omega
      have i2 : (n : Int) < (b : Int) := by omega
      have INS := Lib.hid (fun (x y : Int) => insS_c g base n cap (blsA Ml.due 20 (X.take a)) (X.drop a) [] w1 (by simpa using HR.out) (fun m hm => HD.out m (List.mem_of_mem_drop hm)) hN x y)
      go_wp2_with fail
      refine (INS.out _ _ (by rw [HPl.out]) (by rw [HPl.out, List.length_drop, HX.out]; omega)).mono ?_
      rintro e w2 ⟨rfl, R2, hT2⟩
      have RB := Lib.hid (show RowM w2 g base n cap (blsA Ml.due 20 X) by
        rw [blk_last (by omega) X HQ.out (by have := HX.out; omega) (by have := HX.out; have := HB.out; omega)]
        simpa using R2)
      have T2 := hT.trans hT2
      clear INS HR HB HQ HPl R2 hT hT2 i1 i2
      go_wp2_with fail
      go_loopw [6] (fun x wr => ∃ s : Nat, x = .int .i64 s ∧ 0 < s ∧ s ≤ 2000000 ∧ RowM wr g base n cap (blsA Ml.due s X) ∧ Turn [g] w wr) (fun x _ => n - (intOf x).toNat)
      case atStart => exact ⟨20, rfl, by omega, by omega, RB.out, T2⟩
      case round =>
        obtain ⟨s, rfl, hs, hs2, R, hT⟩ := hrel
        obtain ⟨w3, rfl⟩ : ∃ wo : World, wo = wr := ⟨_, rfl⟩
        clear RB T2
        by_cases hlt : s < n
        · have i1 : (s : Int) < (n : Int) := by omega
          obtain ⟨d, hd⟩ : ∃ d : Nat, d = 2 * s := ⟨_, rfl⟩
          have s1 : IntKind.i64.wrap (2 * (s : Int)) = (d : Int) := by rw [IntWalk.i64_in _ (by omega)]; omega
          have s2 : IntKind.i64.wrap ((s : Int) * 2) = (d : Int) := by rw [IntWalk.i64_in _ (by omega)]; omega
          have HDD := Lib.hid hd
          have HR := Lib.hid R
          have hdp : 0 < d ∧ d ≤ 2000000 := by omega
          have hsd : s < d := by omega
          clear hd R
          go_wp2_with fail
          go_loopw [7, 8] (fun x y wr => ∃ a b : Nat, x = .int .i64 a ∧ y = .int .i64 b ∧ b = a + d ∧ a ≤ n ∧ (∃ q, a = q * d) ∧ RowM wr g base n cap (blsA Ml.due d (X.take a) ++ blsA Ml.due s (X.drop a)) ∧ Turn [g] w wr) (fun x y _ => n + d - (intOf y).toNat)
          case atStart => exact ⟨0, d, rfl, rfl, by omega, by omega, ⟨0, by omega⟩, by simpa [blsA_nil] using HR.out, hT⟩
          case round =>
            obtain ⟨a, b, rfl, rfl, hb, han, ⟨q, hq⟩, R, hT3⟩ := hrel
            obtain ⟨w4, rfl⟩ : ∃ wo : World, wo = wr := ⟨_, rfl⟩
            have HR4 := Lib.hid R
            have HB := Lib.hid hb
            have HQ := Lib.hid hq
            have hab : a + d ≤ b := by omega
            have hPl : (blsA Ml.due d (X.take a)).length = a := by rw [bls_length d (by omega), List.length_take, HX.out]; omega
            have HPl := Lib.hid hPl
            have hDl : (X.drop a).length = n - a := by rw [List.length_drop, HX.out]
            have HDl := Lib.hid hDl
            clear hb hq R hPl hDl hT
            obtain ⟨ms, hms⟩ : ∃ ms : Nat, ms = a + s := ⟨_, rfl⟩
            have s3 : IntKind.i64.wrap ((a : Int) + (s : Int)) = (ms : Int) := by rw [IntWalk.i64_in _ (by omega)]; omega
            have HMS := Lib.hid hms
            clear hms
            by_cases hbn : b ≤ n
            · have i2 : (b : Int) ≤ (n : Int) := by omega
              have i3 : ¬ (n : Int) < (b : Int) := by omega
              obtain ⟨b', hb'⟩ : ∃ b' : Nat, b' = b + d := ⟨_, rfl⟩
              have s4 : IntKind.i64.wrap ((b : Int) + (d : Int)) = (b' : Int) := by rw [IntWalk.i64_in _ (by omega)]; omega
              have HB' := Lib.hid hb'
              clear hb'
              have SY := Lib.hid (SM.out n (blsA Ml.due d (X.take a)) (srt Ml.due ((X.drop a).take s)) (srt Ml.due (((X.drop a).drop s).take s)) (blsA Ml.due s ((X.drop a).drop (2 * s))) w4 (by
                have := HR4.out
                rw [blk_two hs (X.drop a)] at this
                exact this) (List.length_pos_iff.1 (by simp only [srt_length, List.length_take, List.length_drop]; have := HX.out; have := HB.out; have := HDD.out; have := HMS.out; omega)) (List.length_pos_iff.1 (by simp only [srt_length, List.length_take, List.length_drop]; have := HX.out; have := HB.out; have := HDD.out; have := HMS.out; omega)) (srt_asc _) (srt_asc _)
                (fun m hm => HD.out m (List.mem_of_mem_drop (List.mem_of_mem_take (mem_srt.1 hm)))) (fun m hm => HD.out m (List.mem_of_mem_drop (List.mem_of_mem_drop (List.mem_of_mem_take (mem_srt.1 hm))))) (by simp only [srt_length, List.length_take, List.length_drop]; have := HX.out; have := HB.out; have := HDD.out; have := HMS.out; omega)
                a ms b HPl.out.symm (by simp only [srt_length, List.length_take, List.length_drop]; have := HX.out; have := HB.out; have := HDD.out; have := HMS.out; omega) (by simp only [srt_length, List.length_take, List.length_drop]; have := HX.out; have := HB.out; have := HDD.out; have := HMS.out; omega))
              rw [mrg_two] at SY
              go_wp2_with fail
              refine SY.out.mono ?_
              rintro e w5 ⟨rfl, R5, hT5⟩
              have R5' := Lib.hid (show RowM w5 g base n cap (blsA Ml.due d (X.take b) ++ blsA Ml.due s (X.drop b)) by
                rw [HB.out, blk_step (by omega) X HQ.out (by have := HB.out; have := HX.out; omega), List.append_assoc, ← List.drop_drop]
                rw [HDD.out] at R5 ⊢
                exact R5)
              clear R5
              go_wp2_with fail
              go_roundw
              case rel => exact ⟨b, b', rfl, rfl, HB'.out, hbn, ⟨q + 1, by rw [HB.out, HQ.out, Nat.add_mul, Nat.one_mul]⟩, R5'.out, hT3.trans hT5⟩
              case measure => simp [intOf]; have := HB'.out; omega
            · have i2 : ¬ (b : Int) ≤ (n : Int) := by omega
              have i3 : (n : Int) < (b : Int) := by omega
              have hfin : ∀ wz, RowM wz g base n cap (blsA Ml.due d (X.take a) ++ srt Ml.due (X.drop a)) → RowM wz g base n cap (blsA Ml.due d X) := fun wz hz => by
                rw [blk_last (by omega) X HQ.out (by have := HX.out; omega) (by have := HX.out; have := HB.out; omega)]
                exact hz
              have FIN := Lib.hid hfin
              clear hfin
              by_cases hmn : ms < n
              · have i4 : (ms : Int) < (n : Int) := by omega
                have SY := Lib.hid (SM.out n (blsA Ml.due d (X.take a)) (srt Ml.due ((X.drop a).take s)) (srt Ml.due (((X.drop a).drop s).take s)) (blsA Ml.due s ((X.drop a).drop (2 * s))) w4 (by
                  have := HR4.out
                  rw [blk_two hs (X.drop a)] at this
                  exact this) (List.length_pos_iff.1 (by simp only [srt_length, List.length_take, List.length_drop]; have := HX.out; have := HB.out; have := HDD.out; have := HMS.out; omega)) (List.length_pos_iff.1 (by simp only [srt_length, List.length_take, List.length_drop]; have := HX.out; have := HB.out; have := HDD.out; have := HMS.out; omega)) (srt_asc _) (srt_asc _)
                  (fun m hm => HD.out m (List.mem_of_mem_drop (List.mem_of_mem_take (mem_srt.1 hm)))) (fun m hm => HD.out m (List.mem_of_mem_drop (List.mem_of_mem_drop (List.mem_of_mem_take (mem_srt.1 hm))))) (by simp only [srt_length, List.length_take, List.length_drop]; have := HX.out; have := HB.out; have := HDD.out; have := HMS.out; omega)
                  a ms n HPl.out.symm (by simp only [srt_length, List.length_take, List.length_drop]; have := HX.out; have := HB.out; have := HDD.out; have := HMS.out; omega) (by simp only [srt_length, List.length_take, List.length_drop]; have := HX.out; have := HB.out; have := HDD.out; have := HMS.out; omega))
                rw [mrg_two] at SY
                go_wp2_with fail
                refine SY.out.mono ?_
                rintro e w5 ⟨rfl, R5, hT5⟩
                have htk : (X.drop a).take (2 * s) = X.drop a := List.take_of_length_le (by rw [HDl.out]; have := HB.out; have := HDD.out; omega)
                have hdn : (X.drop a).drop (2 * s) = [] := List.drop_of_length_le (by rw [HDl.out]; have := HB.out; have := HDD.out; omega)
                have R5' := Lib.hid (FIN.out w5 (by
                  rw [htk, hdn, blsA_nil, List.append_nil] at R5
                  exact R5))
                clear htk hdn
                clear R5
                go_wp2_with fail
                go_roundw
                case rel => exact ⟨d, rfl, hdp.1, by omega, R5'.out, hT3.trans hT5⟩
                case measure => simp [intOf]; omega
              · have i4 : ¬ (ms : Int) < (n : Int) := by omega
                have R5' := Lib.hid (FIN.out w4 (by
                  have := HR4.out
                  rw [blsA_small s hs (X.drop a) (by rw [HDl.out]; have := HMS.out; omega)] at this
                  exact this))
                go_wp2_with fail
                go_roundw
                case rel => exact ⟨d, rfl, hdp.1, by omega, R5'.out, hT3⟩
                case measure => simp [intOf]; omega
        · have i1 : ¬ (s : Int) < (n : Int) := by omega
          rw [blsA_small s hs X (by have := HX.out; omega)] at R
          have HR := Lib.hid R
          clear R
          go_wp2_with fail
          go_end0
          exact ⟨rfl, HR.out, hT⟩
theorem sortS_c (g base n cap : Nat) (X : List Ml) (w : World) (h : RowM w g base n cap X) (hD : ∀ m ∈ X, DueOk m) (hN : n ≤ 1000000) :
    Calls Try.prog 33 #[.slice (some ⟨g, 0, none⟩) n cap, cmpV] w (Swapped w g base n cap (srt Ml.due X)) := by
  have S := Lib.hid (stable_c g base n cap X w h hD hN)
  clear h hD
  go_enter Try.func33, Try.ntmps33
  go_wp2_with fail
  refine S.out.mono ?_
  rintro e w5 ⟨rfl, R5, hT5⟩
  go_wp2_with fail
  go_end0
  exact ⟨rfl, R5, hT5⟩
end Go.Proofs.Ytiijgokgojjocaa
