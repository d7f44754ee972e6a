/- Plain: where NetPlays stands. -/
import Derived.Test.YtiijgokgojjocaaRSendD
import Derived.Test.YtiijgokgojjocaaRDue
import Derived.Test.YtiijgokgojjocaaRFew
import Derived.Test.YtiijgokgojjocaaRNetB
import Derived.Test.YtiijgokgojjocaaRSame
namespace Go.Proofs.Ytiijgokgojjocaa
open Go.RowKit Go.ChangeMaps Go.WideMaps Go.MapKept Go.WideShapes Srt

theorem Letters.turn0 {w w' : World} {A : Option Addr} {len : Nat} {L : Nat → Bs} (h : Letters w A len L) (hT : Turn [] w w') : Letters w' A len L := fun hpos => by
  obtain ⟨b, off, hA, hb, hc⟩ := h hpos
  refine ⟨b, off, hA, Nat.lt_of_lt_of_le hb hT.size, fun i hi => ?_⟩
  obtain ⟨h1, h2, h3, h4⟩ := hc i hi
  exact ⟨(hT.cell hb (by simp)).trans h1, h2.turn0 hT, h3, h4⟩
/-- Letters whose bytes lie there. -/
structure LsOk (w : World) (ls : List Lt) (dst : Int) : Prop where
  ok : ∀ l ∈ ls, Sl w l.B (u8s l.xs) ∧ l.xs.length = l.nb ∧ l.nb ≤ 60 ∧ l.dst = dst ∧ (l.xs ≠ [] → ∀ i ∈ blks l.B, i < w.heap.size)
theorem LsOk.few {w : World} {A : Option Addr} {len : Nat} {L : Nat → Bs} (h : Letters w A len L) (dst : Int) {k : Nat} (hk : k ≤ len) : LsOk w (fewL dst L k) dst := ⟨fun l hl => by
  unfold fewL at hl
  obtain ⟨i, hi, rfl⟩ := List.mem_map.1 hl
  have hi' : i < len := by have := List.mem_range.1 hi; omega
  have h1 := (h.is hi').cut 60
  exact ⟨h1.sl, h1.len, by show min (L i).n 60 ≤ 60; omega, rfl, fun hne => h1.lt hne⟩⟩
/-- A net's state. -/
structure NS where
  s : Int
  r : Rl
  cut : List (Int × Int)
  came : List ((Int × Int) × Int)
  A : Option Addr
  n : Nat
  cap : Nat
  ms : List Ml
  sent : Int
  lost : Int
  told : Int
/-- The reference's state. -/
structure RS where
  s : Int
  r : Rl
  C : Option Addr
  nc : Nat
  kc : Nat
  cl : List (Int × Int)
  A : Option Addr
  n : Nat
  cap : Nat
  ms : List Ml
  B : Option Addr
  nb : Nat
  kb : Nat
  cs : List Ml
  sent : Int
  lost : Int
  told : Int
def NS.Is (N : NS) (w : World) (g d cb kb base : Nat) : Prop := NetIs w g d cb kb N.s N.r N.cut N.came base N.A N.n N.cap N.ms N.sent N.lost N.told
def RS.Is (R : RS) (w : World) (m : Nat) : Prop := RNetIs w m R.s R.r R.C R.nc R.kc R.cl R.A R.n R.cap R.ms R.B R.nb R.kb R.cs R.sent R.lost R.told
def RS.rows (R : RS) : List Nat := blks R.A ++ (blks R.B ++ blks R.C)
/-- Both lie there, apart. -/
structure Np2 (w : World) (g d cb kb base m : Nat) (N : NS) (R : RS) (wr : World) : Prop where
  net : N.Is wr g d cb kb base
  ref : R.Is wr m
  mlow : base ≤ m
  low : w.heap.size ≤ g ∧ w.heap.size ≤ d ∧ w.heap.size ≤ cb ∧ w.heap.size ≤ kb ∧ w.heap.size ≤ base
  offm : m ∉ blks N.A ∧ ∀ y ∈ N.ms, m ∉ blks y.A
  offR : ∀ x ∈ R.rows, base ≤ x ∧ x ∉ blks N.A ∧ ∀ y ∈ N.ms, x ∉ blks y.A
  offB : ∀ y, y ∈ R.ms ∨ y ∈ R.cs → ∀ x ∈ blks y.norm.A, (x ≠ g ∧ x ≠ d ∧ x ≠ cb ∧ x ≠ kb) ∧ x ∉ blks N.A
  turn : Turn [] w wr
/-- Both stand alike; k bounds what is counted. -/
structure NpEq (N : NS) (R : RS) (k : Nat) : Prop where
  s : R.s = N.s
  r : R.r = N.r
  cut : N.cut = cutP R.cl
  pur : N.ms.map Ml.pure = R.ms.map Ml.pure
  sum : ∀ p, (pget N.came p).getD 0 = sumP (R.cs.map Ml.pure) p
  sent : R.sent = N.sent
  lost : R.lost = N.lost
  told : R.told = N.told
  bn : N.n + R.nb ≤ k
  bc : N.came.length ≤ R.nb
  bcl : R.nc ≤ 64
  b0 : 0 ≤ N.sent ∧ N.sent ≤ k
  b1 : 0 ≤ N.lost ∧ N.lost ≤ k
  b2 : N.told = (R.nb : Int)
section
variable {w wr wz : World} {g d cb kb base m : Nat} {N N' : NS} {R R' : RS} {k : Nat}
theorem Np2.lts (h : Np2 w g d cb kb base m N R wr) : (g < wr.heap.size ∧ d < wr.heap.size ∧ cb < wr.heap.size ∧ kb < wr.heap.size) ∧ m < wr.heap.size ∧ base ≤ wr.heap.size ∧ w.heap.size ≤ wr.heap.size :=
  ⟨NetIs.lts h.net, h.ref.blk.lt, h.net.lo, h.turn.size⟩
theorem Np2.turn0 (h : Np2 w g d cb kb base m N R wr) (hT : Turn [] wr wz) : Np2 w g d cb kb base m N R wz :=
  ⟨NetIs.turn h.net hT (by simp), RNetIs.turn0 h.ref hT, h.mlow, h.low, h.offm, h.offR, h.offB, h.turn.trans hT⟩
theorem Np2.blkA (h : Np2 w g d cb kb base m N R wr) : ∀ i ∈ blks N.A, i < wr.heap.size ∧ base ≤ i := own_ltA h.net.row
theorem Np2.rowsLt (h : Np2 w g d cb kb base m N R wr) : ∀ i ∈ R.rows, i < wr.heap.size ∧ i ≠ m := RNetIs.blks_ok h.ref
/-- The net goes on. -/
theorem Np2.net' (h : Np2 w g d cb kb base m N R wr) (hN : N'.Is wz g d cb kb base) (hT : Turn (g :: d :: cb :: kb :: blks N.A) wr wz) (hA : ∀ i ∈ blks N'.A, i ∈ blks N.A ∨ wr.heap.size ≤ i) (hms : ∀ y ∈ N'.ms, y ∈ N.ms ∨ ∀ i ∈ blks y.A, wr.heap.size ≤ i) :
    Np2 w g d cb kb base m N' R wz := by
  have hl := h.lts
  have hlow := h.low
  have hlow2 := h.net.low
  have hm := h.mlow
  have hrl := h.rowsLt
  have hbA := h.blkA
  have offS : ∀ i, base ≤ i → i ∉ blks N.A → i ∉ g :: d :: cb :: kb :: blks N.A := fun i h1 h2 hm => by
    simp only [List.mem_cons] at hm
    rcases hm with hm | hm | hm | hm | hm
    · omega
    · omega
    · omega
    · omega
    · exact h2 hm
  refine ⟨hN, RNetIs.turn h.ref hT (offS m hm h.offm.1) (fun i hi => offS i (h.offR i hi).1 (h.offR i hi).2.1) (fun x hx i hi hmm => ?_), hm, hlow, ⟨fun hmm => ?_, fun y hy hmm => ?_⟩, fun x hx => ⟨(h.offR x hx).1, fun hmm => ?_, fun y hy hmm => ?_⟩, fun y hy x hx => ⟨(h.offB y hy x hx).1, fun hmm => ?_⟩, h.turn.andThen hT (fun i hi => ?_)⟩
  · have h1 := h.offB x hx i hi
    simp only [List.mem_cons] at hmm
    rcases hmm with hmm | hmm | hmm | hmm | hmm
    · exact h1.1.1 hmm
    · exact h1.1.2.1 hmm
    · exact h1.1.2.2.1 hmm
    · exact h1.1.2.2.2 hmm
    · exact h1.2 hmm
  · rcases hA m hmm with h1 | h1
    · exact h.offm.1 h1
    · omega
  · rcases hms y hy with h1 | h1
    · exact h.offm.2 y h1 hmm
    · have := h1 m hmm; omega
  · rcases hA x hmm with h1 | h1
    · exact (h.offR x hx).2.1 h1
    · have := (hrl x hx).1; omega
  · rcases hms y hy with h1 | h1
    · exact (h.offR x hx).2.2 y h1 hmm
    · have := h1 x hmm; have := (hrl x hx).1; omega
  · rcases hA x hmm with h1 | h1
    · exact (h.offB y hy x hx).2 h1
    · have := (RNetIs.bytes h.ref y hy).ok.lt x hx; omega
  · simp only [List.mem_cons] at hi
    rcases hi with hi | hi | hi | hi | hi
    · exact .inr (by omega)
    · exact .inr (by omega)
    · exact .inr (by omega)
    · exact .inr (by omega)
    · exact .inr (by have := hbA i hi; omega)
/-- The reference goes on. -/
theorem Np2.ref' (h : Np2 w g d cb kb base m N R wr) (hR : R'.Is wz m) (hT : Turn (m :: R.rows) wr wz) (hrows : ∀ i ∈ R'.rows, i ∈ R.rows ∨ wr.heap.size ≤ i) (hb : ∀ y, y ∈ R'.ms ∨ y ∈ R'.cs → (y ∈ R.ms ∨ y ∈ R.cs) ∨ ∀ i ∈ blks y.norm.A, wr.heap.size ≤ i ∨ i < w.heap.size) :
    Np2 w g d cb kb base m N R' wz := by
  have hl := h.lts
  have hlow := h.low
  have hlow2 := h.net.low
  have hm := h.mlow
  have hbA := h.blkA
  have hmok := h.net.mok
  refine ⟨NetIs.turnS h.net hT (fun i hi => ?_), hR, hm, hlow, h.offm, fun x hx => ?_, fun y hy x hx => ?_, h.turn.andThen hT (fun i hi => ?_)⟩
  · rw [List.mem_cons] at hi
    rcases hi with hi | hi
    · subst hi
      exact ⟨hm, h.offm.1, h.offm.2⟩
    · exact h.offR i hi
  · rcases hrows x hx with h1 | h1
    · exact h.offR x h1
    · exact ⟨by omega, fun hmm => by have := hbA x hmm; omega, fun y hy hmm => by have := (hmok y hy).1.lt x hmm; omega⟩
  · rcases hb y hy with h1 | h1
    · exact h.offB y h1 x hx
    · rcases h1 x hx with h2 | h2
      · exact ⟨by omega, fun hmm => by have := hbA x hmm; omega⟩
      · exact ⟨by omega, fun hmm => by have := hbA x hmm; omega⟩
  · rw [List.mem_cons] at hi
    rcases hi with hi | hi
    · exact .inr (by omega)
    · exact .inr (by have := (h.offR i hi).1; omega)
theorem NpEq.nn (h : NpEq N R k) (hN : N.Is wr g d cb kb base) (hR : R.Is wz m) : R.n = N.n ∧ R.cl.length = R.nc ∧ R.cs.length = R.nb ∧ N.ms.length = N.n ∧ R.ms.length = R.n := by
  have h1 := congrArg List.length h.pur
  rw [List.length_map, List.length_map] at h1
  have h2 := RNetIs.lens hR
  have h3 := NetIs.len hN
  omega
theorem NpEq.came (h : NpEq N R k) (hR : R.Is wr m) : CameOk N.came ((R.nb : Int) * 1000000) := fun p => by
  rw [h.sum p]
  have h1 := sumP_range p R.cs (fun x hx => by
    have h2 := (RNetIs.bytes hR x (.inr hx)).ok
    have h3 : x.xs.length = x.n := h2.len
    have h4 : x.n ≤ 1000000 := h2.le
    omega)
  have h2 := (RNetIs.lens hR).2.2
  rw [h2] at h1
  exact h1
theorem NpEq.up (h : NpEq N R k) {k' : Nat} (hk : k ≤ k') : NpEq N R k' := by
  obtain ⟨a1, a2, a3, a4, a5, a6, a7, a8, b1, b2, b3, b4, b5, b6⟩ := h
  exact ⟨a1, a2, a3, a4, a5, a6, a7, a8, by omega, b2, b3, by omega, by omega, b6⟩
theorem filt_len (p : Ml → Bool) : ∀ l : List Ml, (l.filter p).length + (l.filter (fun m => !p m)).length = l.length
  | [] => rfl
  | x :: l => by
    have ih := filt_len p l
    cases h : p x
    · rw [List.filter_cons_of_neg (by simp [h]), List.filter_cons_of_pos (by simp [h])]
      simp only [List.length_cons]
      omega
    · rw [List.filter_cons_of_pos (by simp [h]), List.filter_cons_of_neg (by simp [h])]
      simp only [List.length_cons]
      omega
theorem cameAll_len : ∀ (l : List Ml) (came : List ((Int × Int) × Int)), (cameAll came l).length ≤ came.length + l.length
  | [], came => by simp [cameAll]
  | x :: l, came => by
    have h1 : cameAll came (x :: l) = cameAll (cameAdd came x) l := rfl
    rw [h1]
    have h2 := cameAll_len l (cameAdd came x)
    have h3 := cameAdd_len came x
    rw [List.length_cons]
    omega
/-- Both told what was due. -/
theorem NpEq.due (h : NpEq N R k) (hN : N.Is wr g d cb kb base) (hR : R.Is wr m) (tick : Int) (hN1 : N'.s = N.s) (hN2 : N'.r = N.r) (hN3 : N'.cut = N.cut) (hN4 : N'.came = cameAll N.came (N.ms.filter (isDue tick))) (hN5 : N'.ms = N.ms.filter (fun m => !isDue tick m)) (hN6 : N'.sent = N.sent) (hN7 : N'.lost = N.lost) (hN8 : N'.told = N.told + ((N.ms.filter (isDue tick)).length : Int)) (hN9 : N'.ms.length = N'.n)
    (hR1 : R'.s = R.s) (hR2 : R'.r = R.r) (hR3 : R'.cl = R.cl) (hR4 : R'.cs = R.cs ++ srt Ml.due (R.ms.filter (isDue tick))) (hR5 : R'.ms = R.ms.filter (fun m => !isDue tick m)) (hR6 : R'.sent = R.sent) (hR7 : R'.lost = R.lost) (hR8 : R'.told = R.told + ((R.ms.filter (isDue tick)).length : Nat)) (hR9 : R'.cs.length = R'.nb) (hR10 : R'.nc = R.nc) :
    NpEq N' R' (k + 12) ∧ (srt Ml.due (N.ms.filter (isDue tick))).map Ml.pure = (srt Ml.due (R.ms.filter (isDue tick))).map Ml.pure ∧ (N.ms.filter (isDue tick)).length = (R.ms.filter (isDue tick)).length := by
  have hd : (N.ms.filter (isDue tick)).map Ml.pure = (R.ms.filter (isDue tick)).map Ml.pure := by rw [due_pure, due_pure, h.pur]
  have hs : (N.ms.filter (fun m => !isDue tick m)).map Ml.pure = (R.ms.filter (fun m => !isDue tick m)).map Ml.pure := by rw [stay_pure, stay_pure, h.pur]
  have hdl : (N.ms.filter (isDue tick)).length = (R.ms.filter (isDue tick)).length := by
    have := congrArg List.length hd
    rwa [List.length_map, List.length_map] at this
  have hlen : (N.ms.filter (isDue tick)).length + (N.ms.filter (fun m => !isDue tick m)).length = N.ms.length := by
    exact filt_len _ _
  have hnn := h.nn hN hR
  have hcl := cameAll_len (N.ms.filter (isDue tick)) N.came
  have hbn := h.bn
  have hbc := h.bc
  have hb2 := h.b2
  have hcsl : R'.cs.length = R.cs.length + (R.ms.filter (isDue tick)).length := by rw [hR4, List.length_append, srt_length]
  refine ⟨⟨by rw [hR1, hN1, h.s], by rw [hR2, hN2, h.r], by rw [hN3, hR3, h.cut], by rw [hN5, hR5, hs], fun p => ?_, by rw [hR6, hN6, h.sent], by rw [hR7, hN7, h.lost], by rw [hR8, hN8, h.told, hdl], ?_, ?_, ?_, ?_, ?_, ?_⟩, by rw [srt_pure, srt_pure, hd], hdl⟩
  · rw [hN4, came_sum p _ _ (fun x hx => ((hN.mok x (List.mem_filter.1 hx).1).1.len)), h.sum p, hR4, List.map_append, sumP_append]
    congr 1
    rw [hd]
    exact sumP_perm ((srt_perm _).symm.map _) p
  · rw [← hN9, ← hR9, hcsl, hN5]
    omega
  · rw [hN4, ← hR9, hcsl]
    omega
  · rw [hR10]
    have := h.bcl
    omega
  · rw [hN6]
    have := h.b0
    omega
  · rw [hN7]
    have := h.b1
    omega
  · rw [hN8, hb2, ← hR9, hcsl]
    omega
/-- Where the reference stands behind j letters. -/
structure SdRel (w : World) (g d cb kb base m : Nat) (N : NS) (R : RS) (w0 : World) (tick fr : Int) (ls : List Lt) (j : Nat) (R' : RS) (wr : World) : Prop where
  two : Np2 w g d cb kb base m N R' wr
  ext : ∃ A cap acc, R' = { R with s := (sendAll (cutP R.cl) R.r tick fr R.n R.s (ls.take j)).2.1, A := A, n := R.n + acc.length, cap := cap, ms := R.ms ++ acc, sent := R.sent + j, lost := R.lost + ((sendAll (cutP R.cl) R.r tick fr R.n R.s (ls.take j)).2.2 : Nat) } ∧ acc.map Ml.pure = (sendAll (cutP R.cl) R.r tick fr R.n R.s (ls.take j)).1
  rows : ∀ i ∈ blks R'.A, i ∈ blks R.A ∨ w0.heap.size ≤ i
  turn : Turn (m :: blks R.A) w0 wr
section
variable {w0 w1 : World} {tick fr : Int} {ls : List Lt} {j : Nat}
theorem SdRel.start (h : Np2 w g d cb kb base m N R wr) : SdRel w g d cb kb base m N R wr tick fr ls 0 R wr :=
  ⟨h, ⟨R.A, R.cap, [], by simp [sendAll], by simp [sendAll]⟩, fun i hi => .inl hi, Turn.refl _ _⟩
theorem SdRel.turn0 (h : SdRel w g d cb kb base m N R w0 tick fr ls j R' wr) (hT : Turn [] wr wz) : SdRel w g d cb kb base m N R w0 tick fr ls j R' wz :=
  ⟨h.two.turn0 hT, h.ext, h.rows, h.turn.trans (hT.mono (by simp))⟩
theorem SdRel.next (h : SdRel w g d cb kb base m N R w0 tick fr ls j R' wr) (hj : j < ls.length) {e : Ending} (hp : RSended wr m R'.s R'.r R'.C R'.nc R'.kc R'.cl R'.A R'.n R'.ms R'.B R'.nb R'.kb R'.cs R'.sent R'.lost R'.told tick fr ls[j].dst ls[j].xs e wz) :
    ∃ (a : Nat) (R2 : RS), e = .returned (.int .i64 ((a : Nat) : Int)) ∧ (sendAll (cutP R.cl) R.r tick fr R.n R.s (ls.take (j + 1))).1.length = (sendAll (cutP R.cl) R.r tick fr R.n R.s (ls.take j)).1.length + a ∧ SdRel w g d cb kb base m N R w0 tick fr ls (j + 1) R2 wz := by
  obtain ⟨htwo, ⟨A1, cap1, acc1, rfl, hacc1⟩, hrows, hturn⟩ := h
  obtain ⟨acc, A2, cap2, rfl, hacc, hN, hb, hx, hT⟩ := hp
  have hst := sendAll_snoc (cutP R.cl) R.r tick fr R.n R.s ls hj
  have hl1 : acc1.length = (sendAll (cutP R.cl) R.r tick fr R.n R.s (ls.take j)).1.length := by rw [← hacc1, List.length_map]
  simp only at hacc hN hb hT hrows
  unfold sendStep at hst
  simp only at hst
  rw [← hl1, ← hacc] at hst
  have hz := hturn.size
  have hrz : wr.heap.size ≤ wz.heap.size := hT.size
  have hw := htwo.turn.size
  refine ⟨acc.length, { R with s := (sendAll (cutP R.cl) R.r tick fr R.n R.s (ls.take (j + 1))).2.1, A := A2, n := R.n + (acc1 ++ acc).length, cap := cap2, ms := R.ms ++ (acc1 ++ acc), sent := R.sent + ((j + 1 : Nat) : Int), lost := R.lost + ((sendAll (cutP R.cl) R.r tick fr R.n R.s (ls.take (j + 1))).2.2 : Nat) }, rfl, by rw [hst, ← hl1]; simp [← hacc1], ?_, ⟨A2, cap2, acc1 ++ acc, rfl, by rw [hst, List.map_append, hacc1]⟩, fun i hi => ?_, ?_⟩
  · refine htwo.ref' ?_ (hT.mono (by intro i hi; simp [RS.rows] at hi ⊢; rcases hi with hi | hi <;> simp [hi])) (fun i hi => ?_) (fun y hy => ?_)
    · unfold RS.Is
      rw [hst]
      simp only
      have e1 : R.n + (acc1 ++ acc).length = R.n + acc1.length + acc.length := by rw [List.length_append]; omega
      have e2 : R.sent + ((j + 1 : Nat) : Int) = R.sent + (j : Int) + 1 := by omega
      have e3 : R.lost + (((sendAll (cutP R.cl) R.r tick fr R.n R.s (ls.take j)).2.2 + if acc.map Ml.pure = [] then 1 else 0 : Nat) : Int) = R.lost + (((sendAll (cutP R.cl) R.r tick fr R.n R.s (ls.take j)).2.2 : Nat) : Int) + if acc = [] then 1 else 0 := by
        by_cases h0 : acc = []
        · subst h0; simp; omega
        · simp [h0]
      rw [e1, e2, e3, ← List.append_assoc]
      exact hN
    · simp only [RS.rows, List.mem_append] at hi ⊢
      rcases hi with hi | hi | hi
      · rcases hb i hi with h1 | h1
        · exact .inl (.inl h1)
        · exact .inr h1
      · exact .inl (.inr (.inl hi))
      · exact .inl (.inr (.inr hi))
    · simp only [List.mem_append] at hy ⊢
      rcases hy with (hy | hy | hy) | hy
      · exact .inl (.inl (.inl hy))
      · exact .inl (.inl (.inr hy))
      · exact .inr (fun i hi => .inl (hx y hy i (norm_blks hi)))
      · exact .inl (.inr hy)
  · rcases hb i hi with h1 | h1
    · exact hrows i h1
    · exact .inr (by omega)
  · refine hturn.andThen hT (fun i hi => ?_)
    rw [List.mem_cons] at hi
    rcases hi with hi | hi
    · exact .inl (by simp [hi])
    · rcases hrows i hi with h1 | h1
      · exact .inl (by simp [h1])
      · exact .inr h1
/-- Both sent. -/
theorem SdRel.done (h : SdRel w g d cb kb base m N R w0 tick fr ls ls.length R' wr) (eq : NpEq N R k) (hR0 : R.Is w1 m) {ms' : List Ml} (hs : SRel wr g d cb kb N.s N.r N.cut N.came base N.A N.n N.ms N.sent N.lost N.told tick fr ls ls.length ms' wz) (hl : ls.length ≤ 6) :
    (∃ N2, Np2 w g d cb kb base m N2 R' wz ∧ NpEq N2 R' (k + 12)) ∧ (sendAll (cutP R.cl) R.r tick fr R.n R.s ls).1.length = ms'.length := by
  obtain ⟨htwo, ⟨A1, cap1, acc1, rfl, hacc1⟩, hrows, hturn⟩ := h
  obtain ⟨A2, cap2, hN, hpu, hT, hb, hx⟩ := hs
  have hlen := NpEq.nn eq htwo.net hR0
  have hsl := sendAll_len N.cut N.r tick fr N.n N.s ls ls.length (Nat.le_refl _)
  rw [List.take_of_length_le (Nat.le_refl _)] at hN hpu hacc1 hsl
  have e0 : sendAll (cutP R.cl) R.r tick fr R.n R.s ls = sendAll N.cut N.r tick fr N.n N.s ls := by rw [← eq.cut, eq.r, hlen.1, eq.s]
  have hml : ms'.length = (sendAll N.cut N.r tick fr N.n N.s ls).1.length := by rw [← hpu, List.length_map]
  have hal : acc1.length = (sendAll N.cut N.r tick fr N.n N.s ls).1.length := by rw [← e0, ← hacc1, List.length_map]
  have b1 := eq.bn
  have b2 := eq.b0
  have b3 := eq.b1
  have b4 := eq.bcl
  refine ⟨⟨⟨(sendAll N.cut N.r tick fr N.n N.s ls).2.1, N.r, N.cut, N.came, A2, N.n + ms'.length, cap2, N.ms ++ ms', N.sent + (ls.length : Int), N.lost + ((sendAll N.cut N.r tick fr N.n N.s ls).2.2 : Nat), N.told⟩, htwo.net' hN (hT.mono (by intro i hi; simp at hi ⊢; rcases hi with hi | hi | hi <;> simp [hi])) hb (fun y hy => ?_), ?_⟩, by rw [e0, hml]⟩
  · simp only [List.mem_append] at hy
    rcases hy with hy | hy
    · exact .inl hy
    · exact .inr (hx y hy)
  · refine ⟨?_, eq.r, eq.cut, ?_, eq.sum, ?_, ?_, eq.told, ?_, eq.bc, ?_, ?_, ?_, eq.b2⟩
    · simp only
      rw [List.take_of_length_le (Nat.le_refl _), e0]
    · simp only [List.map_append]
      rw [eq.pur, hpu, hacc1, e0]
    · simp only
      rw [eq.sent]
    · simp only
      rw [eq.lost, List.take_of_length_le (Nat.le_refl _), e0]
    · simp only
      omega
    · simp only
      omega
    · simp only
      omega
    · simp only
      omega
end
/-- Where both stand behind j injected letters. -/
structure InjRel (w : World) (g d cb kb base m : Nat) (N : NS) (R : RS) (w0 : World) (k j : Nat) (N' : NS) (R' : RS) (wr : World) : Prop where
  two : Np2 w g d cb kb base m N' R' wr
  eq : NpEq N' R' (k + j)
  rowsN : ∀ i ∈ blks N'.A, i ∈ blks N.A ∨ w0.heap.size ≤ i
  rowsR : ∀ i ∈ blks R'.A, i ∈ blks R.A ∨ w0.heap.size ≤ i
  turn : Turn (g :: m :: (blks N.A ++ blks R.A)) w0 wr
section
variable {w0 w1 : World} {j : Nat}
theorem InjRel.start (h : Np2 w g d cb kb base m N R wr) (eq : NpEq N R k) : InjRel w g d cb kb base m N R wr k 0 N R wr :=
  ⟨h, eq, fun _ hi => .inl hi, fun _ hi => .inl hi, Turn.refl _ _⟩
theorem InjRel.turn0 (h : InjRel w g d cb kb base m N R w0 k j N' R' wr) (hT : Turn [] wr wz) : InjRel w g d cb kb base m N R w0 k j N' R' wz :=
  ⟨h.two.turn0 hT, h.eq, h.rowsN, h.rowsR, h.turn.trans (hT.mono (by simp))⟩
/-- The net has it. -/
theorem InjRel.net (h : InjRel w g d cb kb base m N R w0 k j N' R' wr) (hk : k + j < 2048) {p : PMl} {e : Ending} (hp : Injected wr g d cb kb N'.s N'.r N'.cut N'.came base N'.A N'.n N'.cap N'.ms N'.sent N'.lost N'.told p e wz) :
    e = .returned (.int .i64 0) ∧ ∃ A2 cap2 mm, mm.pure = p ∧ Np2 w g d cb kb base m { N' with A := A2, n := N'.n + 1, cap := cap2, ms := N'.ms ++ [mm] } R' wz ∧ (∀ i ∈ blks A2, i ∈ blks N'.A ∨ wr.heap.size ≤ i) ∧ Turn (g :: blks N'.A) wr wz := by
  have hb := h.eq.bn
  rcases hp with ⟨h1, -⟩ | ⟨-, rfl, A2, cap2, mm, hp, hN, hT, hA, hx⟩
  · omega
  · refine ⟨rfl, A2, cap2, mm, hp, h.two.net' hN (hT.mono (by intro i hi; simp at hi ⊢; rcases hi with hi | hi <;> simp [hi])) hA (fun y hy => ?_), hA, hT⟩
    simp only [List.mem_append, List.mem_singleton] at hy
    rcases hy with hy | hy
    · exact .inl hy
    · subst hy; exact .inr hx
/-- The reference too. -/
theorem InjRel.next (h : InjRel w g d cb kb base m N R w0 k j N' R' wr) {A2 : Option Addr} {cap2 : Nat} {mm : Ml} (hT1 : Turn (g :: blks N'.A) wr w1) (hA2 : ∀ i ∈ blks A2, i ∈ blks N'.A ∨ wr.heap.size ≤ i) (hN : Np2 w g d cb kb base m { N' with A := A2, n := N'.n + 1, cap := cap2, ms := N'.ms ++ [mm] } R' w1)
    {A3 : Option Addr} {cap3 : Nat} {x : Ml} (hR : RNetIs wz m R'.s R'.r R'.C R'.nc R'.kc R'.cl A3 (R'.n + 1) cap3 (R'.ms ++ [x]) R'.B R'.nb R'.kb R'.cs R'.sent R'.lost R'.told) (hT2 : Turn (m :: blks R'.A) w1 wz) (hA3 : ∀ i ∈ blks A3, i ∈ blks R'.A ∨ w1.heap.size ≤ i) (hxb : ∀ i ∈ blks x.norm.A, i < w.heap.size) (hpu : mm.pure = x.pure) :
    InjRel w g d cb kb base m N R w0 k (j + 1) { N' with A := A2, n := N'.n + 1, cap := cap2, ms := N'.ms ++ [mm] } { R' with A := A3, n := R'.n + 1, cap := cap3, ms := R'.ms ++ [x] } wz := by
  have eq := h.eq
  have hz := h.turn.size
  have hz1 := hT1.size
  have b1 := eq.bn
  have b2 := eq.b0
  have b3 := eq.b1
  have b4 := eq.bcl
  refine ⟨hN.ref' hR (hT2.mono (by intro i hi; simp [RS.rows] at hi ⊢; rcases hi with hi | hi <;> simp [hi])) (fun i hi => ?_) (fun y hy => ?_), ⟨eq.s, eq.r, eq.cut, ?_, eq.sum, eq.sent, eq.lost, eq.told, ?_, eq.bc, ?_, ?_, ?_, eq.b2⟩, fun i hi => ?_, fun i hi => ?_, ?_⟩
  · simp only [RS.rows, List.mem_append] at hi ⊢
    rcases hi with hi | hi | hi
    · rcases hA3 i hi with h1 | h1
      · exact .inl (.inl h1)
      · exact .inr h1
    · exact .inl (.inr (.inl hi))
    · exact .inl (.inr (.inr hi))
  · simp only [List.mem_append, List.mem_singleton] at hy ⊢
    rcases hy with (hy | hy) | hy
    · exact .inl (.inl hy)
    · subst hy; exact .inr (fun i hi => .inr (hxb i hi))
    · exact .inl (.inr hy)
  · simp only [List.map_append, List.map_cons, List.map_nil]
    rw [eq.pur, hpu]
  · simp only
    omega
  · simp only
    omega
  · simp only
    omega
  · simp only
    omega
  · rcases hA2 i hi with h1 | h1
    · exact h.rowsN i h1
    · exact .inr (by omega)
  · rcases hA3 i hi with h1 | h1
    · exact h.rowsR i h1
    · exact .inr (by omega)
  · refine (h.turn.andThen hT1 (fun i hi => ?_)).andThen hT2 (fun i hi => ?_)
    · rw [List.mem_cons] at hi
      rcases hi with hi | hi
      · exact .inl (by simp [hi])
      · rcases h.rowsN i hi with h1 | h1
        · exact .inl (by simp [h1])
        · exact .inr h1
    · rw [List.mem_cons] at hi
      rcases hi with hi | hi
      · exact .inl (by simp [hi])
      · rcases h.rowsR i hi with h1 | h1
        · exact .inl (by simp [h1])
        · exact .inr h1
end
end
end Go.Proofs.Ytiijgokgojjocaa
