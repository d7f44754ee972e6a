/- The walk of the law QuotaReplies. -/
import Derived.Test.YtjjhmedbekfkoaaFit
import Derived.Test.YtjjhmedbekfkoaaLeft
import Derived.Deep.RegionHeld3
import Derived.Deep.DeepCutAuto
import Derived.Deep.CutBlock
namespace Go.Proofs.Ytjjhmedbekfkoaa
open Go.RowKit Go.ChangeMaps

/-- A []byte's first 200 bytes. -/
def Bs.cut (b : Bs) : Bs := ⟨b.A, min b.n 200, b.c, b.xs.take 200⟩
theorem Bs.cut_is {w : World} {b : Bs} (h : Sl w b.A (u8s b.xs)) (hn : b.xs.length = b.n) : b.cut.Is w := by
  refine ⟨?_, by simp [Bs.cut, hn]; omega, by simp [Bs.cut]; omega⟩
  have := h.take 200
  simpa [Bs.cut, u8s, List.map_take] using this

/-- The replies. -/
def Replies (w : World) (A : Option Addr) (len : Nat) (L : Nat → Bs) : Prop :=
  0 < len → ∃ b off, A = some ⟨b, off, none⟩ ∧ b < w.heap.size ∧ ∀ i, i < len → w.cell? ⟨b, off + i, none⟩ = some (.slice (L i).A (L i).n (L i).c) ∧ Sl w (L i).A (u8s (L i).xs) ∧ (L i).xs.length = (L i).n ∧ (L i).n ≤ (L i).c ∧ (L i).c ≤ maxLen

theorem Replies.of_rows {w : World} {A : Option Addr} {len : Nat} {As : Nat → Option Addr} {ns cs : Nat → Nat} {Z : Nat → List Int} (h : Rows2 w .u8 A len As ns cs Z) : Replies w A len (fun i => ⟨As i, ns i, cs i, Z i⟩) := fun hpos => by
  obtain ⟨b, off, hA, hb, hc⟩ := h hpos
  exact ⟨b, off, hA, hb, fun i hi => by obtain ⟨h1, h2, h3, h4, h5, _⟩ := hc i hi; exact ⟨h1, h2, h3, h4, h5⟩⟩

def cuts (L : Nat → Bs) (k : Nat) : List Bs := (List.range k).map fun i => (L i).cut
theorem cuts_succ (L : Nat → Bs) (k : Nat) : cuts L (k + 1) = cuts L k ++ [(L k).cut] := by simp [cuts, List.range_succ]
theorem cuts_len (L : Nat → Bs) (k : Nat) : (cuts L k).length = k := by simp [cuts]

theorem cuts_is {w w' : World} {A : Option Addr} {len k : Nat} {L : Nat → Bs} (hl : Replies w A len L) (hk : k ≤ len) (hT : Turn [] w w') : ∀ b ∈ cuts L k, b.Is w' := by
  intro b hb
  obtain ⟨i, hi, rfl⟩ := List.mem_map.1 hb
  have hik := List.mem_range.1 hi
  obtain ⟨bl, off, _, _, hc⟩ := hl (by omega)
  obtain ⟨_, hs, hn, _⟩ := hc i (by omega)
  have := Bs.cut_is hs hn
  exact ⟨this.1.turn0 hT, this.2⟩

theorem cuts_small {k : Nat} {L : Nat → Bs} : ∀ b ∈ cuts L k, b.n ≤ 200 := by
  intro b hb
  obtain ⟨i, hi, rfl⟩ := List.mem_map.1 hb
  simp [Bs.cut]
  omega
theorem fit_none {i : Int} {l : List Bs} (h : fitB i l = none) {b : Bs} (hb : b ∈ l) : allowsB i b.n = false := by
  unfold fitB at h
  rw [List.find?_eq_none] at h
  simpa using h b hb
theorem fit_some {i : Int} {l : List Bs} {b : Bs} (h : fitB i l = some b) : allowsB i b.n = true := by
  unfold fitB at h
  exact List.find?_some (p := fun b : Bs => allowsB i b.n) h
theorem allows_true {i : Int} {n : Nat} (h : allowsB i n = true) : 0 ≤ i ∧ i ≤ 2147483647 ∧ (n : Int) ≤ 3 * i := by
  unfold allowsB at h
  have := of_decide_eq_true h
  omega
theorem allows_false {i : Int} {n : Nat} (h : allowsB i n = false) (hn : n ≤ 200) (h0 : 0 ≤ i) (h1 : i ≤ 2147483647) : 3 * i < (n : Int) := by
  unfold allowsB at h
  have := of_decide_eq_false h
  omega
theorem fit_drop {i : Int} {l : List Bs} {j : Nat} (hj : j < l.length) : fitB i (l.drop j) = if allowsB i l[j].n = true then some l[j] else fitB i (l.drop (j + 1)) := by
  rw [List.drop_eq_getElem_cons hj]
  unfold fitB
  rw [List.find?_cons]
  split <;> simp_all

theorem infoBs : (Try.prog.info? 35).map (fun i => (i.zero, i.size, i.bytes)) = some (some (.slice none 0 0), 1, 24) := by kernel_rfl
theorem elemBs : ElemT Try.prog 34 35 (.slice none 0 0) 1 24 := ⟨Try.underlying34, info_parts infoBs, rfl, by decide⟩

set_option maxRecDepth 100000 in
set_option maxHeartbeats 2000000 in
theorem replies_walk (i o : Int) (A : Option Addr) (len cap : Nat) (L : Nat → Bs) (w : World) (hl : Replies w A len L) (hlen : len ≤ maxLen) :
    Calls Try.prog 4 #[.int .i64 i, .int .i64 o, .slice A len cap] w fun e w' => e = .returned (.bool true) ∧ Turn [] w w' := by
  unfold maxLen at hlen
  obtain ⟨iB, hiB, hzB⟩ := elemB.info
  have HD := fun (w : World) a n c k h h0 h1 => run_slice_head Try.underlying35 hiB w a n c k h h0 h1
  clear hiB hzB
  go_enter Try.func4, Try.ntmps4
  go_upto_block 0 with fail
  go_cut [7] (fun x wc => ∃ k B c, x = .slice B k c ∧ k ≤ 6 ∧ wc.ownsRow w.heap.size 35 1 (.slice B k c) k (bsVals (cuts L k)) ∧ Turn [] w wc ∧ ∀ b ∈ cuts L k, b.Is wc)
  case first =>
    go_wp2_with fail
    go_loopw [7, 8] (fun x i wr => ∃ k : Nat, k ≤ len ∧ k ≤ 6 ∧ i = .int .i64 k ∧ ∃ B c, x = .slice B k c ∧ wr.ownsRow w.heap.size 35 1 (.slice B k c) k (bsVals (cuts L k)) ∧ Turn [] w wr) (fun _ i _ => len - (intOf i).toNat)
    case atStart => exact ⟨0, Nat.zero_le _, by omega, rfl, none, 0, rfl, World.ownsRow_nil _ _ _ _, Turn.refl _ _⟩
    case round =>
      obtain ⟨k, hk, hk6, rfl, B, c, rfl, hown, hT⟩ := hrel
      by_cases hlt : k < len
      · by_cases h6 : k < 6
        · obtain ⟨bl, off, rfl, hbl, hcell⟩ := hl (by omega)
          obtain ⟨cc, hs, hn, hc1, hc2⟩ := hcell k hlt
          have cs := cuts_succ L k
          have hIs := Bs.cut_is hs hn
          have dc := (hT.cell (p := ⟨bl, off + k, none⟩) hbl (by simp)).trans cc
          clear cc hcell
          have HC := Lib.hid cs
          clear cs
          generalize L k = b at *
          obtain ⟨bA, bn, bc, bxs⟩ := b
          simp only at *
          have i0 : (0 : Int) ≤ (k : Int) := Int.natCast_nonneg _
          have i1 : (k : Int) < (len : Int) := by omega
          unfold maxLen at hc2
          have hif : (if (200 : Int) < (bn : Int) then (200 : Int) else (bn : Int)) = ((min bn 200 : Nat) : Int) := by split <;> omega
          have hm1 : min bn 200 ≤ bc := by omega
          have hm2 : min bn 200 ≤ 200 := by omega
          have ev : (Bs.cut ⟨bA, bn, bc, bxs⟩).val = .slice bA (min bn 200) bc := rfl
          generalize min bn 200 = m at *
          have j0 : (0 : Int) ≤ (m : Int) := Int.natCast_nonneg _
          have j1 : (m : Int) ≤ (bc : Int) := by omega
          have hbl1 := Nat.lt_of_lt_of_le hbl hT.size
          have hb0 : w.heap.size ≤ wr.heap.size := hT.size
          have hfar := own_far hown hbl
          go_wp2_with fail
          go_region_held3 (fun w' => w'.cell? ⟨bl, off + k, none⟩ = some (.slice bA bn bc))
            (first | go_keep | (go_split_ands; (rw [World.grownBy.cell_far hg _ (by simp; omega) hfar]; simp [World.cell?_alloc_past, hbl1, dc])))
            ((refine step_append_sl elemBs (by rfl) _ _ (by rfl) B k c (bsVals (cuts L k)) (by rfl) ((hown.alloc _).drew) (some ⟨wr.heap.size, 0, none⟩) 1 1 [.slice bA m bc] (by rfl) (Sl.new _ #[.slice bA m bc] _) (by simp) (by simp [Value.oneCell']) (by omega) (by omega) (by simp; omega) ?_; intro A' c' w1 hown1 hg hlie))
          go_wp2_with fail
          go_roundw
          case rel =>
            refine ⟨k + 1, by omega, by omega, by go_num, A', c', rfl, ?_, ?_⟩
            · rw [HC.out]
              simpa [bsVals, ev] using hown1
            · exact ((hT.alloc _).drew).andThen (Turn.of_grown (S := B.toList.map (·.block)) hg (by intro k hk; cases B <;> simp_all)) (by intro i hi; exact .inr (own_lo hown hi))
          case measure => simp [intOf]; omega
        · go_wp2_with fail
          go_meet
          case rel =>
            exact ⟨k, B, c, rfl, hk6, hown, hT, cuts_is hl hk hT⟩
      · go_wp2_with fail
        go_meet
        case rel => exact ⟨k, B, c, rfl, hk6, hown, hT, cuts_is hl hk hT⟩
  case rest =>
    obtain ⟨k, B, c, rfl, hk6, hown, hT, hIs⟩ := hcut
    generalize hwc : wc = wd at *
    clear hwc
    go_upto_region 6 with fail
    go_cut [9] (fun s wc => s = .bool (allowsB i o) ∧ wc = wd)
    case first =>
      by_cases a1 : 0 ≤ i
      · by_cases a2 : i ≤ 2147483647
        · by_cases a3 : 0 ≤ o
          · by_cases a4 : o ≤ 2147483647
            · by_cases a5 : (o + 2) / 3 ≤ i
              · have hv : Hid (allowsB i o = true) := by show allowsB i o = true; unfold allowsB; simp; omega
                go_wp2_with fail
                go_meet
                case rel => exact ⟨by rw [hv.out]; try simp, rfl⟩
              · have hv : Hid (allowsB i o = false) := by show allowsB i o = false; unfold allowsB; simp; omega
                go_wp2_with fail
                go_meet
                case rel => exact ⟨by rw [hv.out]; try simp, rfl⟩
            · have hv : Hid (allowsB i o = false) := by show allowsB i o = false; unfold allowsB; simp; omega
              go_wp2_with fail
              go_meet
              case rel => exact ⟨by rw [hv.out]; try simp, rfl⟩
          · have hv : Hid (allowsB i o = false) := by show allowsB i o = false; unfold allowsB; simp; omega
            go_wp2_with fail
            go_meet
            case rel => exact ⟨by rw [hv.out]; try simp, rfl⟩
        · have hv : Hid (allowsB i o = false) := by show allowsB i o = false; unfold allowsB; simp; omega
          go_wp2_with fail
          go_meet
          case rel => exact ⟨by rw [hv.out]; try simp, rfl⟩
      · have hv : Hid (allowsB i o = false) := by show allowsB i o = false; unfold allowsB; simp; omega
        go_wp2_with fail
        go_meet
        case rel => exact ⟨by rw [hv.out]; try simp, rfl⟩
    case rest =>
      obtain ⟨rfl, rfl⟩ := hcut
      go_wp2_with fail
      refine (allows_c i o _).mono ?_
      rintro e w2 ⟨rfl, rfl⟩
      go_wp2_with fail
      refine (fit_c i B k c (cuts L k) _ (Sl.of_own hown) (cuts_len L k) hIs (by omega)).mono ?_
      have hsm := @cuts_small k L
      have hll := cuts_len L k
      generalize cuts L k = l at *
      generalize hf : fitB i l = f at *
      have HF := Lib.hid hf
      have HL := Lib.hid hll
      clear hf hll
      cases f with
      | none =>
        rintro e w3 ⟨rfl, hT3⟩
        have hx := (Sl.of_own hown).turn0 hT3
        have hTr := hT.trans hT3
        clear hown hT hT3
        go_wp2_with fail
        go_loop [12] (fun x => ∃ j : Nat, j ≤ k ∧ x = .int .i64 j) (fun x => k - (intOf x).toNat)
        case atStart => exact ⟨0, Nat.zero_le _, rfl⟩
        case round =>
          obtain ⟨j, hj, rfl⟩ := hrel
          by_cases hlt : j < k
          · have hjl : j < l.length := by rw [HL.out]; exact hlt
            obtain ⟨b1, o1, rfl, l1, c1⟩ := hx.at_ (k := j) (by simpa [bsVals] using hjl)
            have ev : (bsVals l)[j]'(by simpa [bsVals] using hjl) = .slice l[j].A l[j].n l[j].c := by simp [bsVals, Bs.val]
            rw [ev] at c1
            clear ev
            have hal := fit_none HF.out (List.getElem_mem hjl)
            have hn2 := hsm _ (List.getElem_mem hjl)
            have i0 : (0 : Int) ≤ (j : Int) := Int.natCast_nonneg _
            have i1 : (j : Int) < (k : Int) := by omega
            by_cases a1 : 0 ≤ i
            · by_cases a2 : i ≤ 2147483647
              · have a3 := allows_false hal hn2 a1 a2
                clear hal
                generalize l[j] = b at *
                obtain ⟨bA, bn, bc, bxs⟩ := b
                simp only at *
                go_wp2_with fail
                go_round
                case rel => exact ⟨j + 1, by omega, by go_num⟩
                case measure => simp [intOf]; omega
              · clear hal
                go_wp2_with fail
                go_round
                case rel => exact ⟨j + 1, by omega, by go_num⟩
                case measure => simp [intOf]; omega
            · clear hal
              go_wp2_with fail
              go_round
              case rel => exact ⟨j + 1, by omega, by go_num⟩
              case measure => simp [intOf]; omega
          · go_wp2_with fail
            refine (known_c _).mono ?_
            rintro e w4 ⟨rfl, hT4⟩
            go_wp2_with fail
            go_ret
            exact ⟨by simp, hTr.trans hT4⟩
      | some b0 =>
        rintro e w3 ⟨A', c', rfl, hs3, hT3⟩
        have hx := (Sl.of_own hown).turn0 hT3
        have hTr := hT.trans hT3
        have hI3 : ∀ b ∈ l, b.Is w3 := fun b hb => ⟨(hIs b hb).1.turn0 hT3, (hIs b hb).2⟩
        have HI := Lib.hid hI3
        obtain ⟨a1, a2, -⟩ := allows_true (fit_some HF.out)
        obtain ⟨b0A, b0n, b0c, b0x⟩ := b0
        clear hown hT hT3 hIs hI3
        go_wp2_with fail
        go_loop [12] (fun x => ∃ j : Nat, j ≤ k ∧ x = .int .i64 j ∧ Hid (fitB i (l.drop j) = some ⟨b0A, b0n, b0c, b0x⟩)) (fun x => k - (intOf x).toNat)
        case atStart => exact ⟨0, Nat.zero_le _, rfl, Lib.hid (by simpa using HF.out)⟩
        case round =>
          obtain ⟨j, hj, rfl, HJ⟩ := hrel
          by_cases hlt : j < k
          · have hjl : j < l.length := by rw [HL.out]; exact hlt
            obtain ⟨b1, o1, rfl, l1, c1⟩ := hx.at_ (k := j) (by simpa [bsVals] using hjl)
            have ev : (bsVals l)[j]'(by simpa [bsVals] using hjl) = .slice l[j].A l[j].n l[j].c := by simp [bsVals, Bs.val]
            rw [ev] at c1
            clear ev
            have hn2 := hsm _ (List.getElem_mem hjl)
            have hIj := HI.out _ (List.getElem_mem hjl)
            have HE := fit_drop (i := i) hjl
            rw [HJ.out] at HE
            have i0 : (0 : Int) ≤ (j : Int) := Int.natCast_nonneg _
            have i1 : (j : Int) < (k : Int) := by omega
            generalize l[j] = b at *
            obtain ⟨bA, bn, bc, bxs⟩ := b
            obtain ⟨hsb, hnb, -⟩ := hIj
            simp only at *
            cases hal : allowsB i bn with
            | true =>
              rw [hal, if_pos rfl] at HE
              simp only [Option.some.injEq, Bs.mk.injEq] at HE
              obtain ⟨rfl, rfl, rfl, rfl⟩ := HE
              obtain ⟨-, -, a3⟩ := allows_true hal
              have HB := Lib.hid hnb
              clear hal hnb
              go_wp2_with fail
              refine (known_c _).mono ?_
              rintro e w4 ⟨rfl, hT4⟩
              have hx4 := hx.turn0 hT4
              obtain ⟨b1', o1', e1, l1', c1'⟩ := hx4.at_ (k := j) (by simpa [bsVals] using hjl)
              cases e1
              have c4 : w4.cell? ⟨b1, o1 + j, none⟩ = some (.slice b0A b0n b0c) := (hT4.cell (p := ⟨b1, o1 + j, none⟩) l1 (by simp)).trans c1
              clear c1'
              go_wp2_with fail
              refine (same_c A' b0A b0n b0n c' b0c b0x b0x _ (hs3.turn0 hT4) (hsb.turn0 hT4) HB.out HB.out (by omega)).mono ?_
              rintro e w5 ⟨rfl, hT5⟩
              go_wp2_with fail
              go_ret
              exact ⟨by simp, (hTr.trans hT4).trans hT5⟩
            | false =>
              rw [hal, if_neg (by simp)] at HE
              have HE' := Lib.hid HE.symm
              have a3 := allows_false hal hn2 a1 a2
              clear hal HE
              go_wp2_with fail
              go_round
              case rel => exact ⟨j + 1, by omega, by go_num, HE'⟩
              case measure => simp [intOf]; omega
          · exfalso
            have := HJ.out
            rw [List.drop_eq_nil_of_le (by rw [HL.out]; omega)] at this
            cases this
end Go.Proofs.Ytjjhmedbekfkoaa
