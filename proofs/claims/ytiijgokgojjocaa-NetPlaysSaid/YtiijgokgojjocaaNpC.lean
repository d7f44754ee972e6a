/- Calls of both nets, as NetPlays makes them. -/
import Derived.Test.YtiijgokgojjocaaNpP
import Derived.Test.YtiijgokgojjocaaRSend
import Derived.Test.YtiijgokgojjocaaNetKnown
namespace Go.Proofs.Ytiijgokgojjocaa
open Go.RowKit Go.ChangeMaps Go.WideMaps Go.MapKept Go.WideShapes Srt

section
variable {w wr wz w0 w1 : World} {g d cb kb base m : Nat} {N N' : NS} {R R' : RS} {k j : Nat} {tick fr dst : Int} {ls : List Lt}
theorem npSend_c (h : SdRel w g d cb kb base m N R w0 tick fr ls j R' wr) (eq : NpEq N R k) (hk : k ≤ 480) (hR0 : R.Is w1 m) (hls : LsOk w ls dst) (hll : ls.length ≤ 6) (ht0 : 0 ≤ tick) (ht1 : tick ≤ 1073741824) (hfr : wf64 fr) (hdst : wf64 dst) (hj : j < ls.length) :
    Calls Try.prog 19 #[.pointer (some ⟨m, 0, none⟩), .int .i64 tick, .int .i64 fr, .agg #[.int .i64 ls[j].dst, .slice ls[j].B ls[j].nb ls[j].c]] wr (fun e w' => ∃ (a : Nat) (R2 : RS), e = .returned (.int .i64 ((a : Nat) : Int)) ∧ (sendAll (cutP R.cl) R.r tick fr R.n R.s (ls.take (j + 1))).1.length = (sendAll (cutP R.cl) R.r tick fr R.n R.s (ls.take j)).1.length + a ∧ SdRel w g d cb kb base m N R w0 tick fr ls (j + 1) R2 w') := by
  obtain ⟨A1, cap1, acc1, hR', hacc1⟩ := h.ext
  have hnn := eq.nn h.two.net hR0
  have hsl := sendAll_len (cutP R.cl) R.r tick fr R.n R.s ls j (by omega)
  have hal : acc1.length = (sendAll (cutP R.cl) R.r tick fr R.n R.s (ls.take j)).1.length := by rw [← hacc1, List.length_map]
  have b1 := eq.bn
  have b2 := eq.b0
  have b3 := eq.b1
  have b4 := eq.bcl
  have b5 := eq.sent
  have b6 := eq.lost
  have e1 : R'.n = R.n + acc1.length := by rw [hR']
  have e2 : R'.nc = R.nc := by rw [hR']
  have e3 : R'.sent = R.sent + j := by rw [hR']
  have e4 : R'.lost = R.lost + ((sendAll (cutP R.cl) R.r tick fr R.n R.s (ls.take j)).2.2 : Nat) := by rw [hR']
  obtain ⟨l1, l2, l3, l4, l5⟩ := hls.ok ls[j] (List.getElem_mem hj)
  have hlow := h.two.low
  have hmm := h.two.mlow
  refine (rSend_c h.two.ref (by omega) (by omega) tick fr ls[j].dst ls[j].B ls[j].nb ls[j].c ls[j].xs ht0 ht1 hfr (by rw [l4]; exact hdst) (l1.turn0 h.two.turn) l2 (by omega) (fun hne i hi hm => ?_) (by omega) (by omega) (by omega) (by omega)).mono ?_
  · have h1 := l5 hne i hi
    rw [List.mem_cons] at hm
    rcases hm with hm | hm
    · omega
    · have := (h.two.offR i (by simp [RS.rows, hm])).1; omega
  · intro e w' hp
    exact h.next hj hp
theorem npSendN_c (h : SdRel w g d cb kb base m N R w0 tick fr ls ls.length R' wr) (eq : NpEq N R k) (hk : k ≤ 480) (hR0 : R.Is w1 m) (hls : LsOk w ls dst) (hll : ls.length ≤ 6) (ht0 : 0 ≤ tick) (ht1 : tick ≤ 1073741824) (hfr : wf64 fr) (hdst : wf64 dst) {XA : Option Addr} (hX : Sl wr XA (lcs ls)) (hXo : ∀ i ∈ blks XA, i ≠ g ∧ i ≠ d ∧ i ∉ blks N.A) (xc : Nat) {nl : Nat} (hnl : ls.length = nl) :
    Calls Try.prog 9 #[.pointer (some ⟨g, 0, none⟩), .int .i64 tick, .int .i64 fr, .slice XA nl xc] wr (fun e w' => e = .returned (.int .i64 (((sendAll (cutP R.cl) R.r tick fr R.n R.s ls).1.length : Nat) : Int)) ∧ ∃ N2, Np2 w g d cb kb base m N2 R' w' ∧ NpEq N2 R' (k + 12)) := by
  have b1 := eq.bn
  have b2 := eq.b0
  have b3 := eq.b1
  have hlow := h.two.low
  have hbA := h.two.blkA
  have LT : LtOk wr g d N.A XA ls := ⟨hX, fun _ i hi => hXo i hi, fun l hl => by
    obtain ⟨l1, l2, l3, l4, l5⟩ := hls.ok l hl
    exact ⟨l1.turn0 h.two.turn, l2, by omega, by rw [l4]; exact hdst, fun hne i hi => by
      have h1 := l5 hne i hi
      exact ⟨by omega, by omega, fun hm => by have := (hbA i hm).2; omega⟩⟩⟩
  refine (send_c h.two.net tick fr XA nl xc ls ht0 ht1 hfr LT hnl (by omega) (by omega) (by omega) (by omega) (by omega)).mono ?_
  rintro e w' ⟨ms', rfl, hs⟩
  obtain ⟨h1, h2⟩ := h.done eq hR0 hs hll
  exact ⟨by rw [h2], h1⟩
theorem npInj_c (h : InjRel w g d cb kb base m N R w0 k j N' R' wr) (hk : k + j < 2048) (ht0 : 0 ≤ tick) (ht1 : tick ≤ 1073741824) (hfr : wf64 fr) (hdst : wf64 dst) {B : Option Addr} {nb c : Nat} {xs : List Int} (hx : Sl wr B (u8s xs)) (hlen : xs.length = nb) (hnb : nb ≤ 60) :
    Calls Try.prog 15 #[.pointer (some ⟨g, 0, none⟩), .int .i64 tick, .int .i64 fr, .int .i64 dst, .slice B nb c] wr (fun e w' => e = .returned (.int .i64 0) ∧ ∃ A2 cap2 mm, mm.pure = (tick + 1, fr, dst, xs) ∧ Np2 w g d cb kb base m { N' with A := A2, n := N'.n + 1, cap := cap2, ms := N'.ms ++ [mm] } R' w' ∧ (∀ i ∈ blks A2, i ∈ blks N'.A ∨ wr.heap.size ≤ i) ∧ Turn (g :: blks N'.A) wr w') := by
  refine (inject_c h.two.net tick fr dst B nb c xs ht0 ht1 hx hlen (by omega) hfr hdst).mono ?_
  intro e w' hp
  exact h.net hk hp

/-- The net behind its Due. -/
def NS.dued (N : NS) (tick : Int) (n cap : Nat) : NS := { N with came := cameAll N.came (N.ms.filter (isDue tick)), n := n, cap := cap, ms := N.ms.filter (fun m => !isDue tick m), told := N.told + ((N.ms.filter (isDue tick)).length : Int) }
theorem npDueN_c (h : Np2 w g d cb kb base m N R wr) (eq : NpEq N R k) (hk : k ≤ 480) (tick : Int) :
    Calls Try.prog 10 #[.pointer (some ⟨g, 0, none⟩), .int .i64 tick] wr (fun e w' => ∃ O co n' cap', e = .returned (.slice O (N.ms.filter (isDue tick)).length co) ∧ Np2 w g d cb kb base m (N.dued tick n' cap') R w' ∧ Sl w' O (mcs (srt Ml.due (N.ms.filter (isDue tick)))) ∧ (∀ i ∈ blks O, i ∉ m :: R.rows) ∧ (∀ x ∈ N.ms.filter (isDue tick), MlOk w' x ∧ ∀ i ∈ blks x.A, i ∉ m :: R.rows) ∧ Turn (g :: kb :: blks N.A) wr w') := by
  have b1 := eq.bn
  have b2 := eq.bc
  have b3 := eq.b2
  have hc := eq.came h.ref
  have hrl := h.rowsLt
  have hml := h.lts.2.1
  refine (dueN_c h.net tick (by omega) ((R.nb : Int) * 1000000) hc (by omega) (by omega) (by omega)).mono ?_
  rintro e w' ⟨O, co, n', cap', rfl, hO, hN, hok, hT⟩
  have hOl := own_ltA hO
  refine ⟨O, co, n', cap', rfl, h.net' hN (hT.mono (by intro i hi; simp at hi ⊢; rcases hi with hi | hi | hi <;> simp [hi])) (fun i hi => .inl hi) (fun y hy => .inl (List.mem_filter.1 hy).1), Sl.of_own hO, fun i hi hm => ?_, fun x hx => ⟨hok x hx, fun i hi hm => ?_⟩, hT⟩
  · have h1 := (hOl i hi).2
    rw [List.mem_cons] at hm
    rcases hm with hm | hm
    · omega
    · have := (hrl i hm).1; omega
  · have hxm := (List.mem_filter.1 hx).1
    rw [List.mem_cons] at hm
    rcases hm with hm | hm
    · subst hm; exact h.offm.2 x hxm hi
    · exact (h.offR i hm).2.2 x hxm hi
theorem npDueR_c (h : Np2 w g d cb kb base m N' R wr) (eq : NpEq N R k) (hk : k ≤ 480) (tick : Int) (hN0 : N.Is w0 g d cb kb base) (hR0 : R.Is w0 m) {n' cap' : Nat} (hN' : N' = N.dued tick n' cap') {O : Option Addr} (co : Nat) (hO : Sl wr O (mcs (srt Ml.due (N.ms.filter (isDue tick))))) (hOo : ∀ i ∈ blks O, i ∉ m :: R.rows) (hx : ∀ x ∈ N.ms.filter (isDue tick), MlOk wr x ∧ ∀ i ∈ blks x.A, i ∉ m :: R.rows) :
    Calls Try.prog 21 #[.pointer (some ⟨m, 0, none⟩), .int .i64 tick] wr (fun e w' => ∃ O2 no2 co2 R', e = .returned (.slice O2 no2 co2) ∧ Np2 w g d cb kb base m N' R' w' ∧ NpEq N' R' (k + 12) ∧ ∀ w'', Turn [] w' w'' → Calls Try.prog 20 #[.slice O (N.ms.filter (isDue tick)).length co, .slice O2 no2 co2] w'' fun e w' => e = .returned (.bool true) ∧ Turn [] w'' w') := by
  have b1 := eq.bn
  have b2 := eq.bc
  have b3 := eq.b2
  have b4 := eq.told
  have hnn := eq.nn hN0 hR0
  refine (rDue_c h.ref (by omega) (by omega) (by omega) (by omega) tick).mono ?_
  rintro e w' ⟨O2, no2, co2, A2, n2, cap2, B2, nb2, kb2, rfl, hO2, hno2, hR2, hA2, hB2, hT⟩
  have hlen2 := RNetIs.lens hR2
  have NE := eq.due (N' := N') (R' := { R with A := A2, n := n2, cap := cap2, ms := R.ms.filter (fun m => !isDue tick m), B := B2, nb := nb2, kb := kb2, cs := R.cs ++ srt Ml.due (R.ms.filter (isDue tick)), told := R.told + ((R.ms.filter (isDue tick)).length : Nat) }) hN0 hR0 tick (by rw [hN']; rfl) (by rw [hN']; rfl) (by rw [hN']; rfl) (by rw [hN']; rfl) (by rw [hN']; rfl) (by rw [hN']; rfl) (by rw [hN']; rfl) (by rw [hN']; rfl) (NetIs.len h.net) rfl rfl rfl rfl rfl rfl rfl rfl hlen2.2.2 rfl
  have hTm : Turn (m :: R.rows) wr w' := hT.mono (by intro i hi; simp [RS.rows] at hi ⊢; rcases hi with hi | hi <;> simp [hi])
  refine ⟨O2, no2, co2, _, rfl, h.ref' (R' := { R with A := A2, n := n2, cap := cap2, ms := R.ms.filter (fun m => !isDue tick m), B := B2, nb := nb2, kb := kb2, cs := R.cs ++ srt Ml.due (R.ms.filter (isDue tick)), told := R.told + ((R.ms.filter (isDue tick)).length : Nat) }) hR2 hTm (fun i hi => ?_) (fun y hy => .inl ?_), NE.1, fun w'' hT'' => ?_⟩
  · simp only [RS.rows, List.mem_append] at hi ⊢
    rcases hi with hi | hi | hi
    · exact .inr (hA2 i hi)
    · rcases hB2 i hi with h1 | h1
      · exact .inl (.inr (.inl h1))
      · exact .inr h1
    · exact .inl (.inr (.inr hi))
  · simp only [List.mem_append] at hy
    rcases hy with hy | hy | hy
    · exact .inl (List.mem_filter.1 hy).1
    · exact .inr hy
    · exact .inl (List.mem_filter.1 ((srt_perm _).mem_iff.1 hy)).1
  · have l1 : (srt Ml.due (N.ms.filter (isDue tick))).length = (N.ms.filter (isDue tick)).length := srt_length _
    have l2 : (srt Ml.due (R.ms.filter (isDue tick))).length = no2 := by rw [srt_length, hno2]
    have l3 : (N.ms.filter (isDue tick)).length ≤ N.ms.length := List.length_filter_le _ _
    refine same30_c O _ co _ O2 no2 co2 _ w'' ((hO.turn hTm (off_blks hOo)).turn0 hT'') (hO2.turn0 hT'') l1 l2 (by omega) NE.2.1 (fun x hx2 => ?_) (fun x hx2 => ?_)
    · have hxm := (srt_perm _).mem_iff.1 hx2
      exact ((hx x hxm).1.turn hTm (hx x hxm).2).turn hT'' (by simp)
    · exact (RNetIs.bytes hR2 x (.inr (by simp [hx2]))).ok.turn hT'' (by simp)
/-- The rules of the reference are others. -/
theorem RNetIs.setR {s : Int} {r : Rl} {C : Option Addr} {nc kc : Nat} {cl : List (Int × Int)} {A : Option Addr} {n cap : Nat} {ms : List Ml} {B : Option Addr} {nb kb : Nat} {cs : List Ml} {sent lost told : Int} (h : RNetIs w m s r C nc kc cl A n cap ms B nb kb cs sent lost told) {r' : Rl} (hr : RlOk r') :
    RNetIs ((((w.setCell ⟨m, 1, none⟩ (.int .i64 r'.lose)).setCell ⟨m, 2, none⟩ (.int .i64 r'.twice)).setCell ⟨m, 3, none⟩ (.int .i64 r'.bend)).setCell ⟨m, 4, none⟩ (.int .i64 r'.late)) m s r' C nc kc cl A n cap ms B nb kb cs sent lost told ∧ Turn [m] w ((((w.setCell ⟨m, 1, none⟩ (.int .i64 r'.lose)).setCell ⟨m, 2, none⟩ (.int .i64 r'.twice)).setCell ⟨m, 3, none⟩ (.int .i64 r'.bend)).setCell ⟨m, 4, none⟩ (.int .i64 r'.late)) := by
  have T : Turn [m] w ((((w.setCell ⟨m, 1, none⟩ (.int .i64 r'.lose)).setCell ⟨m, 2, none⟩ (.int .i64 r'.twice)).setCell ⟨m, 3, none⟩ (.int .i64 r'.bend)).setCell ⟨m, 4, none⟩ (.int .i64 r'.late)) := (((((Turn.refl [m] w).setCell (.inl (by simp)) _).setCell (.inl (by simp)) _).setCell (.inl (by simp)) _).setCell (.inl (by simp)) _)
  obtain ⟨o1, o2, o3, o4⟩ := h.off_m T
  exact ⟨⟨by simpa using (((h.blk.set_ 1 (.int .i64 r'.lose)).set_ 2 (.int .i64 r'.twice)).set_ 3 (.int .i64 r'.bend)).set_ 4 (.int .i64 r'.late), o1, o2, o3, h.apart, o4, hr⟩, T⟩
theorem npRule_c (h : Np2 w g d cb kb base m N R wr) (r' : Rl) :
    Calls Try.prog 22 #[.pointer (some ⟨g, 0, none⟩), .agg #[.int .i64 r'.lose, .int .i64 r'.twice, .int .i64 r'.bend, .int .i64 r'.late]] wr (fun e w' => e = .returned (.int .i64 (if RlOk r' then 0 else 10)) ∧ Np2 w g d cb kb base m { N with r := if RlOk r' then r' else N.r } R w' ∧ Turn [g] wr w') := by
  refine (rule_c h.net r').mono ?_
  rintro e w' ⟨rfl, hN, hT⟩
  exact ⟨rfl, h.net' (N' := { N with r := if RlOk r' then r' else N.r }) hN (hT.mono (by simp)) (fun i hi => .inl hi) (fun y hy => .inl hy), hT⟩
theorem Np2.setR (h : Np2 w g d cb kb base m N R wr) {r' : Rl} (hr : RlOk r') : Np2 w g d cb kb base m N { R with r := r' } ((((wr.setCell ⟨m, 1, none⟩ (.int .i64 r'.lose)).setCell ⟨m, 2, none⟩ (.int .i64 r'.twice)).setCell ⟨m, 3, none⟩ (.int .i64 r'.bend)).setCell ⟨m, 4, none⟩ (.int .i64 r'.late)) := by
  have S := RNetIs.setR h.ref hr
  exact h.ref' (R' := { R with r := r' }) S.1 (S.2.mono (by simp)) (fun i hi => .inl hi) (fun y hy => .inl hy)
theorem NpEq.rule (h : NpEq N R k) (r' : Rl) : NpEq { N with r := r' } { R with r := r' } k :=
  ⟨h.s, rfl, h.cut, h.pur, h.sum, h.sent, h.lost, h.told, h.bn, h.bc, h.bcl, h.b0, h.b1, h.b2⟩
theorem npCut_c (h : Np2 w g d cb kb base m N R wr) (a b : Int) (ha : wf64 a) (hb : wf64 b) :
    Calls Try.prog 16 #[.pointer (some ⟨g, 0, none⟩), .int .i64 a, .int .i64 b] wr (fun e w' => e = .returned (.int .i64 (cutRes N.cut a b).1) ∧ Np2 w g d cb kb base m { N with cut := (cutRes N.cut a b).2 } R w' ∧ Turn [cb] wr w') := by
  refine (cut_c h.net a b ha hb).mono ?_
  rintro e w' ⟨rfl, hN, hT⟩
  exact ⟨rfl, h.net' (N' := { N with cut := (cutRes N.cut a b).2 }) hN (hT.mono (by intro i hi; simp at hi ⊢; simp [hi])) (fun i hi => .inl hi) (fun y hy => .inl hy), hT⟩
theorem cutRes_len {cut : List (Int × Int)} (h : cut.length ≤ 64) (a b : Int) : (cutRes cut a b).2.length ≤ 64 := by
  unfold cutRes
  split
  · exact h
  · split
    · exact h
    · split
      · exact h
      · simp only [List.length_append, List.length_cons, List.length_nil]
        omega
theorem npCutR_c (h : Np2 w g d cb kb base m N' R wr) (eq : NpEq N R k) (a b : Int) (hN' : N' = { N with cut := (cutRes N.cut a b).2 }) :
    Calls Try.prog 24 #[.pointer (some ⟨m, 0, none⟩), .int .i64 a, .int .i64 b] wr (fun e w' => e = .returned (.int .i64 (cutRes N.cut a b).1) ∧ (∃ R', Np2 w g d cb kb base m N' R' w' ∧ NpEq N' R' (k + 12)) ∧ Turn (m :: R.rows) wr w') := by
  have hc := eq.cut
  have hl := RNetIs.lens h.ref
  have b4 := eq.bcl
  refine (rCut_c h.ref eq.bcl a b).mono ?_
  rintro e w' ⟨C', nc', kc', cl', rfl, hR, hcl, hC, hT⟩
  rw [← hc] at hcl ⊢
  have hl2 := (RNetIs.lens hR).1
  have hl3 : cl'.length ≤ 64 := by
    have h1 := cutRes_len (cut := N.cut) (by rw [hc]; unfold cutP; rw [List.length_map]; omega) a b
    rw [← hcl] at h1
    unfold cutP at h1
    rwa [List.length_map] at h1
  have hTm : Turn (m :: R.rows) wr w' := hT.mono (by intro i hi; simp [RS.rows] at hi ⊢; rcases hi with hi | hi <;> simp [hi])
  refine ⟨rfl, ⟨{ R with C := C', nc := nc', kc := kc', cl := cl' }, h.ref' hR hTm (fun i hi => ?_) (fun y hy => .inl hy), ?_⟩, hTm⟩
  · simp only [RS.rows, List.mem_append] at hi ⊢
    rcases hi with hi | hi | hi
    · exact .inl (.inl hi)
    · exact .inl (.inr (.inl hi))
    · rcases hC i hi with h1 | h1
      · exact .inl (.inr (.inr h1))
      · exact .inr h1
  · subst hN'
    have e1 := eq.up (show k ≤ k + 12 by omega)
    exact ⟨e1.s, e1.r, hcl.symm, e1.pur, e1.sum, e1.sent, e1.lost, e1.told, e1.bn, e1.bc, by show nc' ≤ 64; omega, e1.b0, e1.b1, e1.b2⟩
theorem npHeal_c (h : Np2 w g d cb kb base m N R wr) (eq : NpEq N R k) :
    Calls Try.prog 17 #[.pointer (some ⟨g, 0, none⟩)] wr (fun e w' => e = .returned (.int .i64 ((R.nc : Nat) : Int)) ∧ Np2 w g d cb kb base m { N with cut := [] } R w' ∧ Turn [cb] wr w') := by
  have hl := (RNetIs.lens h.ref).1
  have hc : N.cut.length = R.nc := by rw [eq.cut]; unfold cutP; rw [List.length_map]; exact hl
  refine (heal_c h.net).mono ?_
  rintro e w' ⟨rfl, hN, hT⟩
  exact ⟨by rw [hc], h.net' (N' := { N with cut := [] }) hN (hT.mono (by intro i hi; simp at hi ⊢; simp [hi])) (fun i hi => .inl hi) (fun y hy => .inl hy), hT⟩
theorem Np2.heal (h : Np2 w g d cb kb base m N' R wr) (eq : NpEq N R k) (hN' : N' = { N with cut := [] }) :
    Np2 w g d cb kb base m N' { R with C := none, nc := 0, kc := 0, cl := [] } (wr.setCell ⟨m, 5, none⟩ (.slice none 0 0)) ∧ NpEq N' { R with C := none, nc := 0, kc := 0, cl := [] } (k + 12) := by
  have S := RNetIs.newC h.ref (Turn.refl _ _) (C' := none) (n' := 0) (k' := 0) (l' := []) (base := m + 1) (World.ownsRow_nil _ _ _ _) (by omega) (by simp [blks])
  refine ⟨h.ref' (R' := { R with C := none, nc := 0, kc := 0, cl := [] }) S.1 (S.2.mono (by intro i hi; simp [RS.rows] at hi ⊢; rcases hi with hi | hi <;> simp [hi])) (fun i hi => ?_) (fun y hy => .inl hy), ?_⟩
  · simp only [RS.rows, List.mem_append] at hi ⊢
    rcases hi with hi | hi | hi
    · exact .inl (.inl hi)
    · exact .inl (.inr (.inl hi))
    · simp [blks] at hi
  · subst hN'
    have e1 := eq.up (show k ≤ k + 12 by omega)
    exact ⟨e1.s, e1.r, rfl, e1.pur, e1.sum, e1.sent, e1.lost, e1.told, e1.bn, e1.bc, by simp, e1.b0, e1.b1, e1.b2⟩
theorem norm_ok {x : Ml} (hsl : Sl w x.A (u8s x.xs)) (hlen : x.xs.length = x.n) (hle : x.n ≤ 1000000) (hlt : x.xs ≠ [] → ∀ i ∈ blks x.A, i < w.heap.size) (hv : MlV x) : MlOk w x.norm :=
  ⟨by
    unfold Ml.norm
    simp only
    split
    · rename_i h0
      rw [h0]
      exact Sl.nil _ _
    · exact hsl, hlen, hle, fun i hi => hlt (norm_ne hi) i (norm_blks hi), hv⟩
theorem InjRel.fin (h : InjRel w g d cb kb base m N R w0 k j N' R' wr) {A2 : Option Addr} {cap2 : Nat} {mm : Ml} (hT1 : Turn (g :: blks N'.A) wr w1) (hA2 : ∀ i ∈ blks A2, i ∈ blks N'.A ∨ wr.heap.size ≤ i) (hN : Np2 w g d cb kb base m { N' with A := A2, n := N'.n + 1, cap := cap2, ms := N'.ms ++ [mm] } R' w1)
    (l : Lt) (hmm : mm.pure = (tick + 1, fr, dst, l.xs)) (l1 : Sl w l.B (u8s l.xs)) (l2 : l.xs.length = l.nb) (l3 : l.nb ≤ 60) (l5 : l.xs ≠ [] → ∀ i ∈ blks l.B, i < w.heap.size) (ht0 : 0 ≤ tick) (ht1 : tick ≤ 1073741824) (hfr : wf64 fr) (hdst : wf64 dst) {A3 : Option Addr} {cap3 : Nat} (T12 : Turn (blks R'.A) w1 wz)
    (own2 : wz.ownsRow (m + 1) 63 4 (.slice A3 (R'.n + 1) cap3) (R'.n + 1) (mcs R'.ms ++ [.int .i64 (tick + 1), .int .i64 fr, .int .i64 dst, .slice l.B l.nb l.c])) (hA3 : ∀ i ∈ blks A3, i ∈ blks R'.A ∨ w1.heap.size ≤ i) :
    InjRel w g d cb kb base m N R w0 k (j + 1) { N' with A := A2, n := N'.n + 1, cap := cap2, ms := N'.ms ++ [mm] } { R' with A := A3, n := R'.n + 1, cap := cap3, ms := R'.ms ++ [⟨tick + 1, fr, dst, l.B, l.nb, l.c, l.xs⟩] } (wz.setCell ⟨m, 6, none⟩ (.slice A3 (R'.n + 1) cap3)) := by
  have hlow := hN.low
  have hml := hN.mlow
  have hz := hN.turn.size
  have e2 : mcs R'.ms ++ [Value.int .i64 (tick + 1), Value.int .i64 fr, Value.int .i64 dst, Value.slice l.B l.nb l.c] = mcs (R'.ms ++ [⟨tick + 1, fr, dst, l.B, l.nb, l.c, l.xs⟩]) := by rw [mcs_append]; rfl
  rw [e2] at own2
  have hrb : ∀ i ∈ R'.rows, base ≤ i := fun i hi => (hN.offR i hi).1
  have TW : Turn [] w wz := hN.turn.andThen T12 (fun i hi => .inr (by have := hrb i (by simp [RS.rows, hi]); omega))
  have NR := RNetIs.newA hN.ref T12 own2 (by omega) hA3 (fun y hy => by
    rcases List.mem_append.1 hy with hy | hy
    · exact .inl hy
    · rw [List.mem_singleton] at hy
      subst hy
      refine .inr (.inr ⟨norm_ok (l1.turn0 TW) l2 (by show l.nb ≤ 1000000; omega) (fun hne i hi => by have := l5 hne i hi; have := TW.size; omega) ⟨⟨by show 0 ≤ tick + 1; omega, by show tick + 1 ≤ 2147483648; omega⟩, hfr, hdst⟩, fun i hi hm => ?_⟩)
      have h1 := l5 (norm_ne hi) i (norm_blks hi)
      simp only [List.mem_cons, List.mem_append] at hm
      rcases hm with hm | hm | hm | hm
      · omega
      · rcases hA3 i hm with h2 | h2
        · have := hrb i (by simp [RS.rows, h2]); omega
        · omega
      · have := hrb i (by simp [RS.rows, hm]); omega
      · have := hrb i (by simp [RS.rows, hm]); omega)
  exact h.next hT1 hA2 hN NR.1 NR.2 hA3 (fun i hi => l5 (norm_ne hi) i (norm_blks hi)) hmm
end
end Go.Proofs.Ytiijgokgojjocaa
