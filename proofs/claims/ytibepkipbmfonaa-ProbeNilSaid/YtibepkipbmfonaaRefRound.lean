/- Contract of vigilref21.Round.Next. -/
import Derived.Test.YtibepkipbmfonaaRefMix
import Derived.Test.YtibepkipbmfonaaEachP
namespace Go.Proofs.Ytibepkipbmfonaa
open Go.RowKit Go.ChangeMaps

/-- Block r is the document's Round. -/
def RJs (w : World) (B : Nat → Prop) (r : Nat) (ord : List Int) (cnt : Int) : Prop :=
  ∃ A n c, Blk w r 40 #[.slice A n c, .int .i64 cnt] ∧ Sl w A (i64s ord) ∧ ord.length = n ∧ n ≤ c ∧ c ≤ maxLen ∧ (∀ a, A = some a → B a.block ∧ a.block < w.heap.size) ∧ ¬ B r
theorem RJs.turn {w w' : World} {B : Nat → Prop} {r : Nat} {ord : List Int} {cnt : Int} {S : List Nat} (h : RJs w B r ord cnt) (hT : Turn S w w') (hr : r ∉ S) (hS : ∀ i ∈ S, ¬ B i := by simp) : RJs w' B r ord cnt := by
  obtain ⟨A, n, c, g1, g2, g3, g4, g5, g6, g7⟩ := h
  exact ⟨A, n, c, hT.blk g1 hr, g2.turn hT (fun a ha hm => hS _ hm (g6 a ha).1), g3, g4, g5, fun a ha => ⟨(g6 a ha).1, Nat.lt_of_lt_of_le (g6 a ha).2 hT.size⟩, g7⟩
theorem RJs.alloc {w : World} {B : Nat → Prop} {r : Nat} {ord : List Int} {cnt : Int} (h : RJs w B r ord cnt) (o : Obj) : RJs (w.alloc o) B r ord cnt :=
  h.turn ((Turn.refl [] w).alloc o) (by simp)

def RRNext (w : World) (d r : Nat) (B : Nat → Prop) (x : Option Int × Int × List Int × Int) (e : Ending) (w' : World) : Prop :=
  e = .returned (.tuple #[.int .i64 (x.1.getD 0), .bool x.1.isSome]) ∧ Blk w' d 38 #[.int .u64 x.2.1] ∧ RJs w' B r x.2.2.1 x.2.2.2 ∧ Turn [d, r] w w'

/-- At turn k, with this state, the answer is x. -/
def AtTurn (tg : List Int) (x : Option Int × Int × List Int × Int) (k : Nat) (s : Int) (ord : List Int) (cnt : Int) : Prop :=
  (k = 0 ∧ x = rnext tg s ord cnt) ∨ (k = 1 ∧ (takeL tg ord).1.isSome = true ∧ x = ((takeL tg ord).1, s, (takeL tg ord).2, cnt))

set_option maxRecDepth 100000 in
set_option maxHeartbeats 2000000 in
theorem rrnext_c (d r : Nat) (B : Nat → Prop) (s cnt : Int) (ord tg : List Int) (A : Option Addr) (n c : Nat) (w : World) (hd : Blk w d 38 #[.int .u64 s]) (hr : RJs w B r ord cnt) (hdB : ¬ B d) (hBw : ∀ b, w.heap.size ≤ b → B b) (hdr : d ≠ r) (ht : Sl w A (i64s tg)) (hoff : Off A [d, r]) (hn : tg.length = n) (hl : n ≤ 17592186044415)
    (hc0 : 0 ≤ cnt) (hc1 : cnt ≤ 9223372036854775000) :
    Calls Try.prog 12 #[.pointer (some ⟨r, 0, none⟩), .pointer (some ⟨d, 0, none⟩), .slice A n c] w (RRNext w d r B (rnext tg s ord cnt)) := by
  have HN := Lib.hid hn
  clear hn
  by_cases h0 : n = 0
  · subst h0
    obtain rfl : tg = [] := List.eq_nil_of_length_eq_zero HN.out
    go_enter Try.func12, Try.ntmps12
    go_wp2_with fail
    go_ret2
    exact ⟨by simp [rnext], by simpa [rnext] using hd, hr, Turn.refl _ _⟩
  · have htg : tg ≠ [] := by
      rintro rfl
      exact h0 HN.out.symm
    have hnn : ((n : Int) == 0) = false := by simp; omega
    have hX : Hid (AtTurn tg (rnext tg s ord cnt) 0 s ord cnt) := .inl ⟨rfl, rfl⟩
    generalize rnext tg s ord cnt = X at *
    obtain ⟨iI, hiI, -, hsz, -⟩ := elemI.info
    have TL := fun (w : World) a n c k h1 h2 => run_slice_tail (P := Try.prog) (t := 23) Try.underlying23 hiI hsz w a n c k h1 h2
    go_enter Try.func12, Try.ntmps12
    go_wp2_with fail
    go_loopw [8] (fun k wr => ∃ (t : Nat) (s' : Int) (ord' : List Int) (cnt' : Int), t ≤ 1 ∧ k = .int .i64 t ∧ Hid (AtTurn tg X t s' ord' cnt') ∧ 0 ≤ cnt' ∧ cnt' ≤ 9223372036854775000 + t ∧ Blk wr d 38 #[.int .u64 s'] ∧ RJs wr B r ord' cnt' ∧ Turn [d, r] w wr) (fun k _ => 2 - (intOf k).toNat)
    case atStart => exact ⟨0, s, ord, cnt, by omega, rfl, hX, hc0, by omega, hd, hr, Turn.refl _ _⟩
    case round =>
      obtain ⟨t, s', ord', cnt', ht1, rfl, HX, hc0', hc1', hd', hr', hT'⟩ := hrel
      have htr := ht.turn hT' hoff
      have ht0 : (0 : Int) ≤ (t : Int) := Int.natCast_nonneg _
      have ht2 : (t : Int) < 2 := by omega
      have hrB' := hr'
      clear hd hr hX ht
      have hszw := hT'.size
      obtain ⟨wa, rfl⟩ : ∃ wo : World, wo = wr := ⟨_, rfl⟩
      go_wp2_with fail
      go_loopw [6, 7, 9] (fun _ _ _ wr => ∃ o', Hid (takeL tg ord' = takeL tg o') ∧ RJs wr B r o' cnt' ∧ Turn [r] wa wr) (fun _ _ _ wr => lenAt wr r)
      case atStart => exact ⟨ord', Lib.hid rfl, hr', Turn.refl _ _⟩
      case round =>
        obtain ⟨o', HO, ⟨Ao, no, co, hb, hs, hn, hc, hm, hB, hrB⟩, hT⟩ := hrel
        have c0 := hb.cell 0
        have f0 := hb.frozen 0
        have HB := Lib.hid hB
        clear hB
        unfold maxLen at hm
        cases o' with
        | nil =>
          obtain rfl : no = 0 := by simpa using hn.symm
          have hHO := HO.out
          have HX0 : Hid (t = 0 ∧ X = ((takeL tg (mixL s' (onceL tg)).2).1, (mixL s' (onceL tg)).1, (takeL tg (mixL s' (onceL tg)).2).2, cnt' + 1)) := by
            rcases HX.out with ⟨h1, h2⟩ | ⟨h1, h2, h3⟩
            · refine Lib.hid ⟨h1, ?_⟩
              rw [h2]
              unfold rnext
              rw [if_neg htg, hHO]
              rfl
            · rw [hHO] at h2
              simp [takeL] at h2
          have htz := HX0.out.1
          subst htz
          go_wp2_with fail
          have hX1 := Lib.hid HX0.out.2
          have htT := htr.turn hT (fun a ha => by have := hoff a ha; simp at this ⊢; exact this.2)
          have hbT : RJs wr B r [] cnt' := ⟨Ao, 0, co, hb, hs, rfl, hc, by unfold maxLen; omega, HB.out, hrB⟩
          have hdT := hT.blk hd' (by simp [hdr])
          have hTT : Turn [d, r] w wr := hT'.trans (hT.mono (by simp))
          have hrlt := hb.lt
          clear hb hs c0 f0 HB hT' hr' hd' hT htr HX HX0 HO hHO
          have hzw := hTT.size
          obtain ⟨wb, rfl⟩ : ∃ wo : World, wo = wr := ⟨_, rfl⟩
          go_wp2_with fail
          go_loopw [10, 11] (fun o i wc => ∃ k : Nat, k ≤ n ∧ i = .int .i64 k ∧ ∃ C m cb, o = .slice C m cb ∧ Hid ((onceL (tg.take k)).length = m) ∧ m ≤ k ∧ wc.ownsRow wb.heap.size 3 1 (.slice C m cb) m (i64s (onceL (tg.take k))) ∧ Turn [] wb wc) (fun _ i _ => n - (intOf i).toNat)
          case atStart => exact ⟨0, Nat.zero_le _, rfl, none, 0, 0, rfl, Lib.hid rfl, Nat.le_refl _, World.ownsRow_nil _ _ _ _, Turn.refl _ _⟩
          case round =>
            obtain ⟨j, hj, rfl, C, m, cb, rfl, HM, hm', ho, hT⟩ := hrel
            by_cases hlt : j < n
            · have kx : j < tg.length := by rw [HN.out]; exact hlt
              obtain ⟨b1, o1, rfl, l1, cc1⟩ := i64s_at (htT.turn0 hT) kx
              have hs := onceL_take_succ kx
              have HS := Lib.hid hs
              clear hs
              have i0 : (0 : Int) ≤ (j : Int) := Int.natCast_nonneg _
              have i1 : (j : Int) < (n : Int) := by omega
              generalize hu : tg[j] = u at *
              clear hu
              generalize onceL (tg.take j) = L at *
              have CC := Lib.hid (in_c C m cb L u _ (Sl.of_own ho) HM.out (by omega))
              by_cases hin : u ∈ L
              · have hd : Hid (decide (u ∈ L) = true) := by show decide (u ∈ L) = true; simp [hin]
                have HS' : Hid (onceL (tg.take (j + 1)) = L) := by show onceL (tg.take (j + 1)) = L; rw [HS.out, if_pos hin]
                clear hin
                go_wp2_with fail
                refine CC.out.mono ?_
                rw [hd.out]
                rintro e w4 ⟨rfl, rfl⟩
                go_wp2_with fail
                go_roundw
                case rel => exact ⟨j + 1, by omega, by go_num, C, m, cb, rfl, by rw [HS'.out]; exact HM, by omega, by rw [HS'.out]; exact ho, hT⟩
                case measure => simp [intOf]; omega
              · have hd : Hid (decide (u ∈ L) = false) := by show decide (u ∈ L) = false; simp [hin]
                have HS' : Hid (onceL (tg.take (j + 1)) = L ++ [u]) := by show onceL (tg.take (j + 1)) = L ++ [u]; rw [HS.out, if_neg hin]
                clear hin
                have hb1 : wb.heap.size ≤ wr.heap.size := hT.size
                go_wp2_with fail
                refine CC.out.mono ?_
                rw [hd.out]
                rintro e w4 ⟨rfl, rfl⟩
                go_wp2_with (at_builtin; refine wpList_append_sl elemI rfl _ _ rfl C m cb (i64s L) rfl (ho.alloc _) (some ⟨wr.heap.size, 0, none⟩) 1 1 [.int .i64 u] rfl (Sl.new _ #[.int .i64 u] _) (by simp) (by simp [Value.oneCell']) (by omega) (by omega) (by simp; omega) ?_; intro A' c' w5 hown1 hg hlie)
                go_roundw
                case rel =>
                  refine ⟨j + 1, by omega, by go_num, A', m + 1, c', rfl, by rw [HS'.out]; show (L ++ [u]).length = m + 1; simp [HM.out], by omega, ?_, ?_⟩
                  · rw [HS'.out]
                    simpa [i64s] using hown1
                  · exact (hT.alloc _).andThen (Turn.of_grown (S := C.toList.map (·.block)) hg (by intro k hk; cases C <;> simp_all)) (by intro i hi; exact .inr (own_lo ho hi))
                case measure => simp [intOf]; omega
            · have e : onceL (tg.take j) = onceL tg := by rw [List.take_of_length_le (by rw [HN.out]; omega)]
              rw [e] at ho HM
              clear e
              have hdr2 := hT.blk hdT (by simp)
              have hrr2 := hbT.turn hT (by simp)
              have hTr2 := hTT.trans (hT.mono (by simp))
              have RM := Lib.hid (rmix_c d s' C m cb (onceL tg) wr hdr2 (Sl.of_own ho) HM.out (by omega))
              have hml := Lib.hid (mixL_length s' (onceL tg))
              have hmx := Lib.hid (takeL_mixed htg s')
              generalize mixL s' (onceL tg) = X2 at *
              have hsz3 := hTr2.size
              clear ho hT hTT hdT hbT
              go_wp2_with fail
              refine RM.out.mono ?_
              rintro e w4 ⟨A4, c4, rfl, hown4, hd4, hT4⟩
              obtain ⟨Ar, nr, cr, g1, g2, g3, g4, g5, g6, g7⟩ := hrr2
              have k2 := hT4.blk g1 (by simp; omega)
              have cz := k2.cell 0
              have co4 := k2.cell 1
              have fz := k2.frozen 0
              have fo := k2.frozen 1
              have s4 := hT4.size
              have hT6 : Turn [r] w4 ((w4.setCell ⟨r, 0, none⟩ (.slice A4 m c4)).setCell ⟨r, 1, none⟩ (.int .i64 (cnt' + 1))) := ((Turn.refl [r] w4).setCell (p := ⟨r, 0, none⟩) (.inl (by simp)) _).setCell (p := ⟨r, 1, none⟩) (.inl (by simp)) _
              have hr6 : RJs ((w4.setCell ⟨r, 0, none⟩ (.slice A4 m c4)).setCell ⟨r, 1, none⟩ (.int .i64 (cnt' + 1))) B r X2.2 (cnt' + 1) := by
                refine ⟨A4, m, c4, (k2.set_ 0 _).set_ 1 _, (Sl.of_own hown4).turn hT6 (fun a ha => ?_), by rw [hml.out]; exact HM.out, (own_caps hown4).1, (own_caps hown4).2, fun a ha => ?_, g7⟩
                · have := own_base hown4 a ha
                  have := g1.lt
                  simp
                  omega
                · have := own_base hown4 a ha
                  have h4 := own_lt hown4 a ha
                  exact ⟨hBw _ (by omega), by simpa [World.setCell] using h4⟩
              go_wp2_with fail
              go_roundw
              case rel =>
                refine ⟨1, X2.1, X2.2, cnt' + 1, by omega, by go_num, .inr ⟨rfl, ?_, hX1.out⟩, by omega, by omega, hT6.blk hd4 (by simp [hdr]), hr6, (hTr2.trans (hT4.mono (by simp))).trans (hT6.mono (by simp))⟩
                obtain ⟨x0, r0, -, h2, -⟩ := hmx.out
                rw [h2]
                rfl
              case measure => simp [intOf]
        | cons x rs =>
          have hn' : rs.length + 1 = no := by simpa using hn
          have HN' := Lib.hid hn
          clear hn
          obtain ⟨b1, o1, rfl, l1, c1⟩ := i64s_at hs (k := 0) (by simp)
          simp only [List.getElem_cons_zero, Nat.add_zero] at c1
          have h1 : 1 ≤ no := by omega
          have h1' : (0 : Int) < (no : Int) := by omega
          have hT2 := hT.setCell (p := ⟨r, 0, none⟩) (.inl (by simp)) (.slice (tailA (some ⟨b1, o1, none⟩) co) (no - 1) (co - 1))
          have HS := Lib.hid (in_c A n c tg x (wr.setCell ⟨r, 0, none⟩ (.slice (tailA (some ⟨b1, o1, none⟩) co) (no - 1) (co - 1))) (htr.turn hT2 (fun a ha => by have := hoff a ha; simp at this ⊢; exact this.2)) HN.out (by omega))
          have hR2 : RJs (wr.setCell ⟨r, 0, none⟩ (.slice (tailA (some ⟨b1, o1, none⟩) co) (no - 1) (co - 1))) B r rs cnt' := by
            refine ⟨_, no - 1, co - 1, hb.set_ 0 _, ?_, by omega, by omega, by unfold maxLen; omega, fun a ha => by have := tailA_block (B := fun b => B b ∧ b < wr.heap.size) HB.out a ha; simpa [World.setCell] using this, hrB⟩
            refine (hs.tail (c := co) (by simp [i64s]; omega)).turn ((Turn.refl [r] wr).setCell (p := ⟨r, 0, none⟩) (.inl (by simp)) _) (fun a ha => ?_)
            have := tailA_block (B := fun b => B b ∧ b < wr.heap.size) HB.out a ha
            simp
            rintro he
            exact hrB (he ▸ this.1)
          have HL := Lib.hid (lenAt_of hb)
          have HL2 : Hid (lenAt (wr.setCell ⟨r, 0, none⟩ (.slice (tailA (some ⟨b1, o1, none⟩) co) (no - 1) (co - 1))) r = no - 1) := lenAt_of (hb.set_ 0 (.slice (tailA (some ⟨b1, o1, none⟩) co) (no - 1) (co - 1)))
          clear hn'
          by_cases hin : x ∈ tg
          · have hd2 : Hid (decide (x ∈ tg) = true) := by show decide (x ∈ tg) = true; simp [hin]
            have HF : Hid (X = (some x, s', rs, cnt')) := by
              have e : takeL tg ord' = (some x, rs) := by rw [HO.out]; simp [takeL, hin]
              rcases HX.out with ⟨h1, h2⟩ | ⟨h1, h2, h3⟩
              · show X = _
                rw [h2]
                unfold rnext
                rw [if_neg htg, e]
              · show X = _
                rw [h3, e]
            clear hin
            go_wp2_with fail
            refine HS.out.mono ?_
            rw [hd2.out]
            rintro e w2 ⟨rfl, rfl⟩
            go_wp2_with fail
            try rw [Exit.noGoto_ret]
            go_ret2
            rw [HF.out]
            exact ⟨by simp, hT2.blk hd' (by simp [hdr]), hR2, hT'.trans (hT2.mono (by simp))⟩
          · have hd2 : Hid (decide (x ∈ tg) = false) := by show decide (x ∈ tg) = false; simp [hin]
            have HF : Hid (takeL tg ord' = takeL tg rs) := by show takeL tg ord' = _; rw [HO.out]; simp [takeL, hin]
            clear hin
            go_wp2_with fail
            refine HS.out.mono ?_
            rw [hd2.out]
            rintro e w2 ⟨rfl, rfl⟩
            go_wp2_with fail
            go_roundw
            case rel => exact ⟨rs, HF, hR2, hT2⟩
            case measure => rw [HL.out, HL2.out]; omega
end Go.Proofs.Ytibepkipbmfonaa
