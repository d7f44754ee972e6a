/- Words for the walk of HintsPlays: s[1:]; New that refuses; both hints beside each other. -/
import Derived.Test.YtpdencmgjihnfaaHPlaysP
namespace Go.Proofs.Ytpdencmgjihnfaa
open Go.RowKit Go.ChangeMaps

theorem run_slice_one {P : Program} {t e : TypeId} {i : TypeInfo} (ht : P.underlying t = some (.slice e)) (hi : P.info? e = some i) (w : World) (a : Option Addr) (n c : Nat) (hl : 1 ≤ n) :
    (Instr.slice t (.slice a n c) (some (.int .i64 1)) none none).run P w = .ok (.slice (if c = 1 then a else a.map (·.add i.size)) (n - 1) (c - 1)) w := by
  have h1 : (0 : Int) ≤ 1 ∧ (1 : Int) ≤ (n : Int) := by omega
  simp [Instr.slice, run_underlying ht, Instr.sliceBounds, Instr.sliceBound, asIntOf, h1, sizeOf, typeInfo, hi]
theorem sl_one {w : World} {A : Option Addr} {x : C4} {r : List C4} (h : Sl w A (ccs (x :: r))) (c : Nat) (hc : r.length ≤ c - 1) : Sl w (if c = 1 then A else A.map (·.add 4)) (ccs r) := fun hp => by
  rw [ccs_len] at hp
  obtain ⟨b, off, rfl, hb, hcell⟩ := h (by simp [ccs])
  rw [if_neg (by omega)]
  refine ⟨b, off + 4, by simp [Addr.add_lit], hb, fun j u hu => ?_⟩
  have := hcell (j + 4) u (by simpa [ccs] using hu)
  rw [show off + 4 + j = off + (j + 4) by omega]
  exact this
theorem blks_one {A : Option Addr} {c : Nat} {i : Nat} (h : i ∈ blks (if c = 1 then A else A.map (·.add 4))) : i ∈ blks A := by
  split at h
  · exact h
  · cases A with
    | none => simp [blks] at h
    | some a =>
      obtain ⟨b, off, spot⟩ := a
      by_cases h4 : (4 : Nat) = 0
      · omega
      · simp [blks, Addr.add] at h ⊢
        exact h

set_option maxHeartbeats 400000 in
theorem newH_no (c1 c2 c3 c4 t : Int) (w : World) (h : ¬ Right (c1, c2, c3, c4) ∨ t < 1 ∨ 255 < t) :
    Calls Try.prog 6 #[.agg #[.int .i64 c1, .int .i64 c2, .int .i64 c3, .int .i64 c4], .int .i64 t] w fun e w' => e = .returned (.tuple #[.pointer none, .int .i64 10]) ∧ Turn [] w w' := by
  have T0 := (Turn.refl [] w).alloc (.cells #[.int .i64 c1, .int .i64 c2, .int .i64 c3, .int .i64 c4] 29)
  by_cases hr : Right (c1, c2, c3, c4)
  · have hE : Hid (checkE (c1, c2, c3, c4) = 0) := by show checkE _ = _; unfold checkE; rw [if_pos hr]
    have ht : t < 1 ∨ 255 < t := h.resolve_left (fun h => h hr)
    have NW := Lib.hid (fun wz => new_no t wz ht)
    clear h hr ht
    go_enter Try.func6, Try.ntmps6
    go_wp2_with fail
    refine (check_c c1 c2 c3 c4 _).mono ?_
    rw [hE.out]
    rintro e w1 ⟨rfl, hT1⟩
    have K1 := claim_cells (hT1.blk (Blk.new w 29 #[.int .i64 c1, .int .i64 c2, .int .i64 c3, .int .i64 c4]) (by simp))
    obtain ⟨k0, k1, k2, k3, kl⟩ := K1
    go_wp2_with fail
    refine (NW.out _).mono ?_
    rintro e w2 ⟨rfl, rfl⟩
    go_wp2_with fail
    go_ret2
    exact ⟨by simp, T0.trans hT1⟩
  · have hE : Hid (checkE (c1, c2, c3, c4) = 10) := by show checkE _ = _; unfold checkE; rw [if_neg hr]
    clear h hr
    go_enter Try.func6, Try.ntmps6
    go_wp2_with fail
    refine (check_c c1 c2 c3 c4 _).mono ?_
    rw [hE.out]
    rintro e w1 ⟨rfl, hT1⟩
    go_wp2_with fail
    go_ret2
    exact ⟨by simp, T0.trans hT1⟩

theorem Offered.turn {w : World} {g : Nat} {own : C4} {times : Int} {A : Option Addr} {n cap : Nat} {wl : List C4} {L : Option Addr} {nl cl : Nat} {T : TL} {s t : Int} {c : C4} {e : Ending} {w' : World} (h : Offered w g own times A n cap wl L nl cl T s t c e w') : Turn [g] w w' := by
  rcases h.2 with ⟨-, -, h⟩ | ⟨-, A', c', L', cl', -, -, -, h⟩
  · exact h.mono (by simp)
  · exact h
/-- Both hints, side by side. -/
structure HPRel (w : World) (h q bm base mb : Nat) (own : C4) (times : Int) (N : Nat) (m : QM) (A : Option Addr) (n cp : Nat) (wl : List C4) (Ar : Option Addr) (nr cr : Nat) (L : Option Addr) (nl cl : Nat) (T : TL) (wr : World) : Prop where
  his : HIs wr h q bm own times m base A n cp wl
  ref : RefIs wr mb own times Ar nr cr wl L nl cl T
  ok : PlOk m T
  nd : (wl.map (·.1)).Nodup
  nle : nl ≤ N
  mbA : mb ∉ blks A
  mbh : mb ≠ h ∧ mb ≠ q ∧ mb ≠ bm
  offR : ∀ i ∈ blks Ar, i ≠ h ∧ i ≠ q ∧ i ≠ bm ∧ i ∉ blks A
  offL : ∀ i ∈ blks L, i ≠ h ∧ i ≠ q ∧ i ≠ bm ∧ i ∉ blks A
  ltR : (∀ i ∈ blks Ar, i < wr.heap.size) ∧ ∀ i ∈ blks L, i < wr.heap.size
  new : w.heap.size ≤ h ∧ w.heap.size ≤ q ∧ w.heap.size ≤ bm ∧ w.heap.size ≤ base ∧ w.heap.size ≤ mb
  turn : Turn [] w wr
section
variable {w : World} {h q bm base mb : Nat} {own : C4} {times : Int} {N : Nat} {m : QM} {A : Option Addr} {n cp : Nat} {wl : List C4} {Ar : Option Addr} {nr cr : Nat} {L : Option Addr} {nl cl : Nat} {T : TL} {wr : World}
theorem HPRel.go (R : HPRel w h q bm base mb own times N m A n cp wl Ar nr cr L nl cl T wr) {w' : World} (hT : Turn [] wr w') : HPRel w h q bm base mb own times N m A n cp wl Ar nr cr L nl cl T w' :=
  ⟨R.his.turn hT (by simp) (by simp) (by simp) (by simp), R.ref.turn hT (by simp) (by simp) (by simp), R.ok, R.nd, R.nle, R.mbA, R.mbh, R.offR, R.offL, ⟨fun i hi => Nat.lt_of_lt_of_le (R.ltR.1 i hi) hT.size, fun i hi => Nat.lt_of_lt_of_le (R.ltR.2 i hi) hT.size⟩, R.new, R.turn.trans hT⟩
theorem HPRel.newA (R : HPRel w h q bm base mb own times N m A n cp wl Ar nr cr L nl cl T wr) : ∀ i ∈ blks A, w.heap.size ≤ i := fun i hi => by
  have := (own_ltA R.his.row i hi).2
  have := R.new
  omega
theorem HPRel.more (R : HPRel w h q bm base mb own times N m A n cp wl Ar nr cr L nl cl T wr) {N' : Nat} (hN : N ≤ N') : HPRel w h q bm base mb own times N' m A n cp wl Ar nr cr L nl cl T wr :=
  ⟨R.his, R.ref, R.ok, R.nd, Nat.le_trans R.nle hN, R.mbA, R.mbh, R.offR, R.offL, R.ltR, R.new, R.turn⟩
/-- Behind a call of these hints. -/
theorem HPRel.real (R : HPRel w h q bm base mb own times N m A n cp wl Ar nr cr L nl cl T wr) {w' : World} {m' : QM} {A' : Option Addr} {n' cp' : Nat} {wl' : List C4} (H : HIs w' h q bm own times m' base A' n' cp' wl') (hT : Turn ([h, bm] ++ blks A) wr w') (hA : ∀ i ∈ blks A', i ∈ blks A ∨ wr.heap.size ≤ i) :
    RefIs w' mb own times Ar nr cr wl L nl cl T ∧ mb ∉ blks A' ∧ (∀ i ∈ blks Ar, i ≠ h ∧ i ≠ q ∧ i ≠ bm ∧ i ∉ blks A') ∧ (∀ i ∈ blks L, i ≠ h ∧ i ≠ q ∧ i ≠ bm ∧ i ∉ blks A') ∧ Turn [] w w' := by
  have hmb := R.ref.blk.lt
  refine ⟨R.ref.turn hT ?_ ?_ ?_, ?_, ?_, ?_, ?_⟩
  · simp only [List.mem_append, List.mem_cons, List.not_mem_nil, or_false, not_or]
    exact ⟨⟨R.mbh.1, R.mbh.2.2⟩, R.mbA⟩
  · intro i hi
    have := R.offR i hi
    simp only [List.mem_append, List.mem_cons, List.not_mem_nil, or_false, not_or]
    exact ⟨⟨this.1, this.2.2.1⟩, this.2.2.2⟩
  · intro i hi
    have := R.offL i hi
    simp only [List.mem_append, List.mem_cons, List.not_mem_nil, or_false, not_or]
    exact ⟨⟨this.1, this.2.2.1⟩, this.2.2.2⟩
  · intro hm
    rcases hA _ hm with h1 | h1
    · exact R.mbA h1
    · omega
  · intro i hi
    have hl := R.ltR.1 i hi
    have := R.offR i hi
    refine ⟨this.1, this.2.1, this.2.2.1, fun hm => ?_⟩
    rcases hA _ hm with h1 | h1
    · exact this.2.2.2 h1
    · omega
  · intro i hi
    have hl := R.ltR.2 i hi
    have := R.offL i hi
    refine ⟨this.1, this.2.1, this.2.2.1, fun hm => ?_⟩
    rcases hA _ hm with h1 | h1
    · exact this.2.2.2 h1
    · omega
  · refine R.turn.andThen hT (fun i hi => .inr ?_)
    have := R.new
    simp only [List.mem_append, List.mem_cons, List.not_mem_nil, or_false] at hi
    rcases hi with (rfl | rfl) | hi
    · omega
    · omega
    · exact R.newA i hi

/-- In the midst of an act's offers. -/
structure HOff (w4 : World) (h q bm mb : Nat) (own : C4) (times s t : Int) (nl0 : Nat) (A' : Option Addr) (l wl : List C4) (m : QM) (p : Nat) (Ar : Option Addr) (nr cr : Nat) (L : Option Addr) (nl cl : Nat) (T : TL) (wr : World) : Prop where
  ref : RefIs wr mb own times Ar nr cr (offAll own times s t (l.take p) wl m).2.1 L nl cl T
  ok : PlOk (offAll own times s t (l.take p) wl m).2.2 T
  nle : nl ≤ nl0 + p
  offR : ∀ i ∈ blks Ar, i ≠ h ∧ i ≠ q ∧ i ≠ bm ∧ i ∉ blks A'
  offL : ∀ i ∈ blks L, i ≠ h ∧ i ≠ q ∧ i ≠ bm ∧ i ∉ blks A'
  ltR : (∀ i ∈ blks Ar, i < wr.heap.size) ∧ ∀ i ∈ blks L, i < wr.heap.size
  turn : Turn [mb] w4 wr
theorem HOff.step {w4 : World} {h q bm mb : Nat} {own : C4} {times s t : Int} {nl0 : Nat} {A' : Option Addr} {l wl : List C4} {m : QM} {p : Nat} {Ar : Option Addr} {nr cr : Nat} {L : Option Addr} {nl cl : Nat} {T : TL} {wr w6 : World} {e : Ending}
    (H : HOff w4 h q bm mb own times s t nl0 A' l wl m p Ar nr cr L nl cl T wr) (hp : p < l.length) (hq : QOk times m) (hw : wl.length ≤ 16) (hn : (wl.map (·.1)).Nodup)
    (hlo : h < w4.heap.size ∧ q < w4.heap.size ∧ bm < w4.heap.size ∧ ∀ i ∈ blks A', i < w4.heap.size) {w5 : World} (hT : Turn [] wr w5)
    (ho : Offered w5 mb own times Ar nr cr (offAll own times s t (l.take p) wl m).2.1 L nl cl T s t l[p] e w6) (ev : Int) (hev : (offAll own times s t l wl m).1[p]? = some ev) :
    e = .returned (.int .i64 ev) ∧ ∃ Ar' nr' cr' L' nl' cl' T', HOff w4 h q bm mb own times s t nl0 A' l wl m (p + 1) Ar' nr' cr' L' nl' cl' T' w6 := by
  obtain ⟨i1, i2, i3⟩ := offAll_inv own times s t (l.take p) wl m hq hw hn
  obtain ⟨r1, r2, r3⟩ := offE_ref (own := own) (times := times) (s := s) (t := t) (c := l[p]) i1 H.ok i2
  have sn := offAll_snoc own times s t l[p] (l.take p) wl m
  rw [← List.take_succ_eq_append_getElem hp] at sn
  have e1 : ev = refE own (offAll own times s t (l.take p) wl m).2.1 T times s t l[p] := by
    have h1 := offAll_take own times s t l (p + 1) wl m
    rw [sn] at h1
    have h3 := offAll_len own times s t (l.take p) wl m
    rw [List.length_take, Nat.min_eq_left (by omega)] at h3
    have h2 : ((offAll own times s t l wl m).1.take (p + 1))[p]? = some (offE own (offAll own times s t (l.take p) wl m).2.1 (offAll own times s t (l.take p) wl m).2.2 times s t l[p]).1 := by
      rw [← h1, List.getElem?_append_right (by omega), h3]
      simp
    rw [List.getElem?_take_of_lt (by omega), hev] at h2
    rw [r1]
    exact Option.some.inj h2
  rw [e1]
  refine ⟨ho.1, ?_⟩
  have hz := H.turn.size
  have hz5 := hT.size
  rcases ho.2 with ⟨h0, hR, hT6⟩ | ⟨h0, A2, c2, L2, cl2, hR, hA2, hL2, hT6⟩
  · refine ⟨Ar, nr, cr, L, nl, cl, T, ?_, ?_, by have := H.nle; omega, H.offR, H.offL, ⟨fun i hi => ?_, fun i hi => ?_⟩, H.turn.trans ((hT.trans hT6).mono (by simp))⟩
    · rw [sn]
      rw [if_neg (by rw [← r1]; exact h0)]
      exact hR
    · rw [sn]
      exact r3 (by rw [← r1]; exact h0)
    · have := H.ltR.1 i hi; have := hT6.size; omega
    · have := H.ltR.2 i hi; have := hT6.size; omega
  · refine ⟨A2, nr + 1, c2, L2, nl + 1, cl2, T ++ [(s, t / 32)], ?_, ?_, by have := H.nle; omega, fun i hi => ?_, fun i hi => ?_, ⟨fun i hi => (hA2 i hi).2, fun i hi => (hL2 i hi).2⟩, H.turn.trans ((hT.mono (by simp)).trans hT6)⟩
    · rw [sn]
      rw [if_pos (by rw [← r1]; exact h0)]
      exact hR
    · rw [sn]
      exact r2 (by rw [← r1]; exact h0)
    · have := (hA2 i hi).1
      exact ⟨by omega, by omega, by omega, fun hm => by have := hlo.2.2.2 i hm; omega⟩
    · have := (hL2 i hi).1
      exact ⟨by omega, by omega, by omega, fun hm => by have := hlo.2.2.2 i hm; omega⟩
end
end Go.Proofs.Ytpdencmgjihnfaa
