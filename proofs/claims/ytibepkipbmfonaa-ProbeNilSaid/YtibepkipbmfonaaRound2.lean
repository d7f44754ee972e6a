/- Contracts of package probe: order.take, Round.Next, Left, Rounds. -/
import Derived.Test.YtibepkipbmfonaaRound
namespace Go.Proofs.Ytibepkipbmfonaa
open Go.RowKit Go.ChangeMaps

/-- Block r is a Round: what is left of its order (a row in a block such as B says), and how often it began. -/
def RIs (w : World) (B : Nat → Prop) (r : Nat) (ord : List Int) (cnt : Int) : Prop :=
  ∃ A n c, Blk w r 28 #[.slice A n c, .int .i64 cnt] ∧ Sl w A (i64s ord) ∧ ord.length = n ∧ n ≤ c ∧ c ≤ maxLen ∧ (∀ a, A = some a → B a.block ∧ a.block < w.heap.size) ∧ ¬ B r

theorem RIs.turn {w w' : World} {B : Nat → Prop} {r : Nat} {ord : List Int} {cnt : Int} {S : List Nat} (h : RIs w B r ord cnt) (hT : Turn S w w') (hr : r ∉ S) (hS : ∀ i ∈ S, ¬ B i := by simp) : RIs w' B r ord cnt := by
  obtain ⟨A, n, c, g1, g2, g3, g4, g5, g6, g7⟩ := h
  exact ⟨A, n, c, hT.blk g1 hr, g2.turn hT (fun a ha hm => hS _ hm (g6 a ha).1), g3, g4, g5, fun a ha => ⟨(g6 a ha).1, Nat.lt_of_lt_of_le (g6 a ha).2 hT.size⟩, g7⟩
theorem RIs.alloc {w : World} {B : Nat → Prop} {r : Nat} {ord : List Int} {cnt : Int} (h : RIs w B r ord cnt) (o : Obj) : RIs (w.alloc o) B r ord cnt :=
  h.turn ((Turn.refl [] w).alloc o) (by simp)

/-- The address of 's[1:]'. -/
def tailA (A : Option Addr) (c : Nat) : Option Addr := if c = 1 then A else A.map (·.add 1)
theorem run_slice_tail {P : Program} {t e : TypeId} {i : TypeInfo} (ht : P.underlying t = some (.slice e)) (hi : P.info? e = some i) (hsz : i.size = 1) (w : World) (a : Option Addr) (n c : Nat) (k : IntKind) (h1 : 1 ≤ n) (h2 : n ≤ c) :
    (Instr.slice t (.slice a n c) (some (.int k 1)) none none).run P w = .ok (.slice (tailA a c) (n - 1) (c - 1)) w := by
  have e1 : (1 : Int) ≤ (n : Int) := by omega
  simp [Instr.slice, run_underlying ht, Instr.sliceBounds, Instr.sliceBound, asIntOf, e1, sizeOf, typeInfo, hi, hsz, tailA]
theorem Sl.tail {w : World} {A : Option Addr} {x : Value} {xs : List Value} {c : Nat} (h : Sl w A (x :: xs)) (hc : xs.length + 1 ≤ c) : Sl w (tailA A c) xs := fun hpos => by
  obtain ⟨b, off, rfl, hb, hcell⟩ := h (by simp)
  have hne : c ≠ 1 := by omega
  refine ⟨b, off + 1, by simp [tailA, hne, WideShapes.add_plain], hb, fun j u hu => ?_⟩
  have := hcell (j + 1) u (by simpa using hu)
  rw [show off + 1 + j = off + (j + 1) by omega]
  exact this
theorem tailA_block {A : Option Addr} {c : Nat} {B : Nat → Prop} (h : ∀ a, A = some a → B a.block) : ∀ a, tailA A c = some a → B a.block := by
  intro a ha
  unfold tailA at ha
  split at ha
  · exact h a ha
  · obtain ⟨a0, h0, rfl⟩ := Option.map_eq_some_iff.1 ha
    have := h a0 h0
    simp [Addr.add]
    exact this

def takeL (tg : List Int) : List Int → Option Int × List Int
  | [] => (none, [])
  | x :: r => if x ∈ tg then (some x, r) else takeL tg r
/-- A round's next one: who, and the draws' state, the order and the count behind it. -/
def rnext (tg : List Int) (s : Int) (ord : List Int) (cnt : Int) : Option Int × Int × List Int × Int :=
  if tg = [] then (none, s, ord, cnt) else
  match takeL tg ord with
  | (some x, r) => (some x, s, r, cnt)
  | (none, _) => ((takeL tg (mixL s (onceL tg)).2).1, (mixL s (onceL tg)).1, (takeL tg (mixL s (onceL tg)).2).2, cnt + 1)

theorem own_lt {w : World} {base n cap size : Nat} {e : TypeId} {A : Option Addr} {xs : List Value} (h : w.ownsRow base e size (.slice A n cap) n xs) : ∀ a, A = some a → a.block < w.heap.size := by
  rintro a rfl
  obtain ⟨-, h2⟩ := h
  rcases h2 with h2 | ⟨g, cap, cur, hv, hb, hg, hr⟩
  · simp at h2
  · cases hv
    exact lt_of_some hg

/-- How long the slice in cell 0 of block r is: for a measure. -/
def lenAt (w : World) (r : Nat) : Nat := match w.cell? ⟨r, 0, none⟩ with | some (.slice _ n _) => n | _ => 0
theorem lenAt_of {w : World} {r n c : Nat} {t : TypeId} {A : Option Addr} {x : Value} (h : Blk w r t #[.slice A n c, x]) : lenAt w r = n := by
  unfold lenAt
  rw [h.cell 0]
  rfl

set_option maxRecDepth 100000 in
set_option maxHeartbeats 1000000 in
theorem otake_c (r : Nat) (B : Nat → Prop) (tb : Nat) (cnt : Int) (ord tg : List Int) (At : Option Addr) (nt ct : Nat) (w : World) (hr : RIs w B r ord cnt) (htb : Blk w tb 23 #[.slice At nt ct]) (ht : Sl w At (i64s tg)) (hnt : tg.length = nt) (hne : tb ≠ r) (hoff : Off At [r]) (hl : nt ≤ 9223372036854775806) :
    Calls Try.prog 25 #[.pointer (some ⟨r, 0, none⟩), .func (.func 23) #[] #[.pointer (some ⟨tb, 0, none⟩)]] w fun e w' => e = .returned (.tuple #[.int .i64 ((takeL tg ord).1.getD 0), .bool (takeL tg ord).1.isSome]) ∧ RIs w' B r (takeL tg ord).2 cnt ∧ Turn [r] w w' := by
  have HN := Lib.hid hnt
  clear hnt
  obtain ⟨iI, hiI, -, hsz, -⟩ := elemI.info
  have TL := fun (w : World) a n c k h1 h2 => run_slice_tail (P := Try.prog) (t := 26) Try.underlying26 hiI hsz w a n c k h1 h2
  clear hiI hsz
  go_enter Try.func25, Try.ntmps25
  go_wp2_with fail
  go_step3
  go_wp2_with fail
  go_step3
  go_wp2_with fail
  go_loopw [6] (fun _ wr => ∃ o', Hid (takeL tg ord = takeL tg o') ∧ RIs wr B r o' cnt ∧ Turn [r] w wr) (fun _ wr => lenAt wr r)
  case atStart => exact ⟨ord, Lib.hid rfl, hr, Turn.refl _ _⟩
  case round =>
    obtain ⟨o', HO, ⟨A, n, c, hb, hs, hn, hc, hm, hB, hrB⟩, hT⟩ := hrel
    have c0 := hb.cell 0
    have f0 := hb.frozen 0
    have HB := Lib.hid hB
    clear hB
    unfold maxLen at hm
    cases o' with
    | nil =>
      obtain rfl : n = 0 := by simpa using hn.symm
      go_wp2_with fail
      try rw [Exit.noGoto_ret]
      go_ret2
      rw [HO.out]
      exact ⟨by simp [takeL], ⟨A, 0, c, hb, hs, rfl, hc, by unfold maxLen; omega, HB.out, hrB⟩, hT⟩
    | cons x rs =>
      have hn' : rs.length + 1 = n := by simpa using hn
      have HN' := Lib.hid hn
      clear hn
      obtain ⟨b1, o1, rfl, l1, c1⟩ := i64s_at hs (k := 0) (by simp)
      simp only [List.getElem_cons_zero, Nat.add_zero] at c1
      have h1 : 1 ≤ n := by omega
      have h1' : (0 : Int) < (n : Int) := by omega
      have HS := Lib.hid (such_c x tb At nt ct tg _ (((hT.setCell (p := ⟨r, 0, none⟩) (.inl (by simp)) (.slice (tailA (some ⟨b1, o1, none⟩) c) (n - 1) (c - 1)))).blk htb (by simpa using hne)) (ht.turn (hT.setCell (p := ⟨r, 0, none⟩) (.inl (by simp)) (.slice (tailA (some ⟨b1, o1, none⟩) c) (n - 1) (c - 1))) hoff) HN.out hl)
      have hT2 := hT.setCell (p := ⟨r, 0, none⟩) (.inl (by simp)) (.slice (tailA (some ⟨b1, o1, none⟩) c) (n - 1) (c - 1))
      have hR2 : RIs (wr.setCell ⟨r, 0, none⟩ (.slice (tailA (some ⟨b1, o1, none⟩) c) (n - 1) (c - 1))) B r rs cnt := by
        refine ⟨_, n - 1, c - 1, hb.set_ 0 _, ?_, by omega, by omega, by unfold maxLen; omega, fun a ha => by have := tailA_block (B := fun b => B b ∧ b < wr.heap.size) HB.out a ha; simpa [World.setCell] using this, hrB⟩
        refine (hs.tail (c := c) (by simp [i64s]; omega)).turn ((Turn.refl [r] wr).setCell (p := ⟨r, 0, none⟩) (.inl (by simp)) _) (fun a ha => ?_)
        have := tailA_block (B := fun b => B b ∧ b < wr.heap.size) HB.out a ha
        simp
        rintro he
        exact hrB (he ▸ this.1)
      have HL := Lib.hid (lenAt_of hb)
      have HL2 : Hid (lenAt (wr.setCell ⟨r, 0, none⟩ (.slice (tailA (some ⟨b1, o1, none⟩) c) (n - 1) (c - 1))) r = n - 1) := lenAt_of (hb.set_ 0 (.slice (tailA (some ⟨b1, o1, none⟩) c) (n - 1) (c - 1)))
      clear hn'
      by_cases hin : x ∈ tg
      · have hd : Hid (decide (x ∈ tg) = true) := by show decide (x ∈ tg) = true; simp [hin]
        have HF : Hid (takeL tg ord = (some x, rs)) := by show takeL tg ord = _; rw [HO.out]; simp [takeL, hin]
        clear hin
        go_wp2_with fail
        refine HS.out.mono ?_
        rw [hd.out]
        rintro e w2 ⟨rfl, rfl⟩
        go_wp2_with fail
        try rw [Exit.noGoto_ret]
        go_ret2
        rw [HF.out]
        exact ⟨by simp, hR2, hT2⟩
      · have hd : Hid (decide (x ∈ tg) = false) := by show decide (x ∈ tg) = false; simp [hin]
        have HF : Hid (takeL tg ord = takeL tg rs) := by show takeL tg ord = _; rw [HO.out]; simp [takeL, hin]
        clear hin
        go_wp2_with fail
        refine HS.out.mono ?_
        rw [hd.out]
        rintro e w2 ⟨rfl, rfl⟩
        go_wp2_with fail
        go_roundw
        case rel => exact ⟨rs, HF, hR2, hT2⟩
        case measure => rw [HL.out, HL2.out]; omega

def RNext (w : World) (d r : Nat) (B : Nat → Prop) (x : Option Int × Int × List Int × Int) (e : Ending) (w' : World) : Prop :=
  e = .returned (.tuple #[.int .i64 (x.1.getD 0), .bool x.1.isSome]) ∧ Blk w' d 56 #[.int .u64 x.2.1] ∧ RIs w' B r x.2.2.1 x.2.2.2 ∧ Turn [d, r] w w'

set_option maxRecDepth 100000 in
set_option maxHeartbeats 1000000 in
theorem rnext_c (d r : Nat) (B : Nat → Prop) (s cnt : Int) (ord tg : List Int) (A : Option Addr) (n c : Nat) (w : World) (hd : Blk w d 56 #[.int .u64 s]) (hr : RIs w B r ord cnt) (hdB : ¬ B d) (hBw : ∀ b, w.heap.size ≤ b → B b) (hdr : d ≠ r) (ht : Sl w A (i64s tg)) (hoff : Off A [d, r]) (hn : tg.length = n) (hl : n ≤ 17592186044415)
    (hc0 : 0 ≤ cnt) (hc1 : cnt ≤ 9223372036854775000) :
    Calls Try.prog 9 #[.pointer (some ⟨r, 0, none⟩), .pointer (some ⟨d, 0, none⟩), .slice A n c] w (RNext w d r B (rnext tg s ord cnt)) := by
  have HN := Lib.hid hn
  clear hn
  by_cases h0 : n = 0
  · subst h0
    obtain rfl : tg = [] := List.eq_nil_of_length_eq_zero HN.out
    go_enter Try.func9, Try.ntmps9
    go_wp2_with fail
    go_ret2
    exact ⟨by simp [rnext], by simpa [rnext] using hd.alloc _, hr.alloc _, (Turn.refl _ _).alloc _⟩
  · have htg : tg ≠ [] := by
      rintro rfl
      exact h0 HN.out.symm
    have hrlt : r < w.heap.size := by obtain ⟨Ao, no, co, g1, _⟩ := hr; exact g1.lt
    have T1 := (Turn.refl [] w).alloc (.cells #[.slice A n c] 23)
    have hb1 := Blk.new w 23 #[.slice A n c]
    have hr1 : RIs (w.alloc (.cells #[.slice A n c] 23)) B r ord cnt := hr.alloc _
    have OT := Lib.hid (otake_c r B w.heap.size cnt ord tg A n c _ hr1 hb1 (ht.alloc _) HN.out (by omega) (fun a ha => by have := hoff a ha; simp at this ⊢; exact this.2) (by omega))
    have hd1 := hd.alloc (.cells #[.slice A n c] 23)
    have hnn : ((n : Int) == 0) = false := by simp; omega
    have hsz1 : (w.alloc (.cells #[.slice A n c] 23)).heap.size = w.heap.size + 1 := by simp
    have HSZ := Lib.hid hsz1
    clear hsz1
    rcases htk : takeL tg ord with ⟨_ | y, o1⟩
    · have HR : Hid (rnext tg s ord cnt = ((takeL tg (mixL s (onceL tg)).2).1, (mixL s (onceL tg)).1, (takeL tg (mixL s (onceL tg)).2).2, cnt + 1)) := by
        show rnext tg s ord cnt = _
        unfold rnext
        rw [if_neg htg, htk]
      have HTK := Lib.hid htk
      clear htk htg
      go_enter Try.func9, Try.ntmps9
      go_wp2_with fail
      refine OT.out.mono ?_
      rw [HTK.out]
      rintro e w2 ⟨rfl, hr2, hT2⟩
      have hb2 := hT2.blk hb1 (by simp; omega)
      have hd2 := hT2.blk hd1 (by simp [hdr])
      have ht2 := (ht.alloc (.cells #[.slice A n c] 23)).turn hT2 (fun a ha => by have := hoff a ha; simp at this ⊢; exact this.2)
      have c2 := hb2.cell 0
      go_wp2_with fail
      refine (once_c A n c tg _ ht2 HN.out hl).mono ?_
      have hol : Hid ((onceL tg).length ≤ n) := by
        show (onceL tg).length ≤ n
        rw [← HN.out]
        exact onceL_length_le tg
      rintro e w3 ⟨A3, c3, rfl, hown3, hT3⟩
      generalize hm3 : (onceL tg).length = m3 at *
      have HM3 := Lib.hid hm3
      clear hm3
      have hd3 := hT3.blk hd2 (by simp)
      go_wp2_with fail
      refine (mix_c d s A3 m3 c3 (onceL tg) _ hd3 (Sl.of_own hown3) HM3.out (by have := hol.out; omega)).mono ?_
      have hml := Lib.hid (mixL_length s (onceL tg))
      generalize mixL s (onceL tg) = X at *
      rintro e w4 ⟨A4, c4, rfl, hown4, hd4, hT4⟩
      have hr2' := hr2
      obtain ⟨Ar, nr, cr, g1, g2, g3, g4, g5, g6, g7⟩ := hr2'
      have k1 := hT3.blk g1 (by simp)
      have k2 := hT4.blk k1 (by simp; omega)
      have cz := k2.cell 0
      have co := k2.cell 1
      have fz := k2.frozen 0
      have fo := k2.frozen 1
      have hb3 := hT3.blk hb2 (by simp)
      have hb4 := hT4.blk hb3 (by simp; have := hd.lt; omega)
      have s1 := T1.size
      have s2 := hT2.size
      have s3 := hT3.size
      have s4 := hT4.size
      have hT6 : Turn [r] w4 ((w4.setCell ⟨r, 0, none⟩ (.slice A4 m3 c4)).setCell ⟨r, 1, none⟩ (.int .i64 (cnt + 1))) := ((Turn.refl [r] w4).setCell (p := ⟨r, 0, none⟩) (.inl (by simp)) _).setCell (p := ⟨r, 1, none⟩) (.inl (by simp)) _
      have hr6 : RIs ((w4.setCell ⟨r, 0, none⟩ (.slice A4 m3 c4)).setCell ⟨r, 1, none⟩ (.int .i64 (cnt + 1))) B r X.2 (cnt + 1) := by
        refine ⟨A4, m3, c4, (k2.set_ 0 _).set_ 1 _, (Sl.of_own hown4).turn hT6 (fun a ha => ?_), by rw [hml.out]; exact HM3.out, (own_caps hown4).1, (own_caps hown4).2, fun a ha => ?_, g7⟩
        · have := own_base hown4 a ha
          simp
          omega
        · have := own_base hown4 a ha
          have h4 := own_lt hown4 a ha
          exact ⟨hBw _ (by omega), by simpa [World.setCell] using h4⟩
      have hb6 := hT6.blk hb4 (by simp; omega)
      have ht4 := (ht2.turn0 hT3).turn hT4 (fun a ha => by have := hoff a ha; simp at this ⊢; exact this.1)
      have ht6 := ht4.turn hT6 (fun a ha => by have := hoff a ha; simp at this ⊢; exact this.2)
      have hd6 := hT6.blk hd4 (by simp [hdr])
      have OT6 := Lib.hid (otake_c r B w.heap.size (cnt + 1) X.2 tg A n c _ hr6 hb6 ht6 HN.out (by omega) (fun a ha => by have := hoff a ha; simp at this ⊢; exact this.2) (by omega))
      have hTall : Turn [d, r] w ((w4.setCell ⟨r, 0, none⟩ (.slice A4 m3 c4)).setCell ⟨r, 1, none⟩ (.int .i64 (cnt + 1))) :=
        ((((T1.mono (S' := [d, r]) (by simp)).trans (hT2.mono (by simp))).trans (hT3.mono (by simp))).trans (hT4.mono (by simp))).trans (hT6.mono (by simp))
      clear g1 k1 hb2 hb3 hr6 hb6 ht6
      go_wp2_with fail
      refine OT6.out.mono ?_
      rintro e w7 ⟨rfl, hr7, hT7⟩
      go_wp2_with fail
      go_ret2
      rw [HR.out]
      exact ⟨by simp, hT7.blk hd6 (by simp [hdr]), hr7, hTall.trans (hT7.mono (by simp))⟩
    · have HR : Hid (rnext tg s ord cnt = (some y, s, o1, cnt)) := by
        show rnext tg s ord cnt = _
        unfold rnext
        rw [if_neg htg, htk]
      have HTK := Lib.hid htk
      clear htk htg
      go_enter Try.func9, Try.ntmps9
      go_wp2_with fail
      refine OT.out.mono ?_
      rw [HTK.out]
      rintro e w2 ⟨rfl, hr2, hT2⟩
      go_wp2_with fail
      go_ret2
      rw [HR.out]
      exact ⟨by simp, hT2.blk hd1 (by simp [hdr]), hr2, (T1.mono (by simp)).trans (hT2.mono (by simp))⟩
end Go.Proofs.Ytibepkipbmfonaa
