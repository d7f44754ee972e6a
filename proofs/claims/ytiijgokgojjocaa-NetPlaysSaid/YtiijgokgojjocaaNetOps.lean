/- A net's Inject, Cut, Heal, Bytes. -/
import Derived.Test.YtiijgokgojjocaaNetSend
namespace Go.Proofs.Ytiijgokgojjocaa
open Go.RowKit Go.ChangeMaps Go.WideMaps Go.MapKept Go.WideShapes

section
variable {w w' wr wi wf : World} {g d cb kb : Nat} {s s' : Int} {r : Rl} {cut : List (Int × Int)} {came : List ((Int × Int) × Int)} {base : Nat} {A : Option Addr} {n cap : Nat} {ms : List Ml} {sent lost told : Int}
def Injected (w : World) (g d cb kb : Nat) (s : Int) (r : Rl) (cut : List (Int × Int)) (came : List ((Int × Int) × Int)) (base : Nat) (A : Option Addr) (n cap : Nat) (ms : List Ml) (sent lost told : Int) (p : PMl) (e : Ending) (w' : World) : Prop :=
  (n = 2048 ∧ e = .returned (.int .i64 6) ∧ NetIs w' g d cb kb s r cut came base A n cap ms sent lost told ∧ Turn [] w w') ∨
  (n < 2048 ∧ e = .returned (.int .i64 0) ∧ ∃ A' cap' m, m.pure = p ∧ NetIs w' g d cb kb s r cut came base A' (n + 1) cap' (ms ++ [m]) sent lost told ∧ Turn (g :: blks A) w w' ∧ (∀ i ∈ blks A', i ∈ blks A ∨ w.heap.size ≤ i) ∧ ∀ i ∈ blks m.A, w.heap.size ≤ i)
set_option maxHeartbeats 2000000 in
theorem inject_c (h : NetIs w g d cb kb s r cut came base A n cap ms sent lost told) (tick fr dst : Int) (B : Option Addr) (nb c : Nat) (xs : List Int) (ht0 : 0 ≤ tick) (ht1 : tick ≤ 1073741824) (hx : Sl w B (u8s xs)) (hlen : xs.length = nb) (hnb : nb ≤ 1000000) (hfr : wf64 fr) (hdst : wf64 dst) :
    Calls Try.prog 15 #[.pointer (some ⟨g, 0, none⟩), .int .i64 tick, .int .i64 fr, .int .i64 dst, .slice B nb c] w (Injected w g d cb kb s r cut came base A n cap ms sent lost told (tick + 1, fr, dst, xs)) := by
  have sw : IntKind.i64.wrap (tick + 1) = tick + 1 := IntWalk.i64_in _ (by omega)
  have CB := Lib.hid (cloneB_c B nb c xs w hx hlen (by omega))
  have H := Lib.hid h
  have HLN := Lib.hid hlen
  clear h hx hlen
  go_enter Try.func15, Try.ntmps15
  go_wp2_with fail
  refine CB.out.mono ?_
  rintro e w1 ⟨B2, c2, rfl, O2, hT1⟩
  have N1 := Lib.hid (H.out.turn hT1 (by simp))
  have hO := own_ltA O2
  have hO' := own_ltA N1.out.row
  have hO0 := own_ltA H.out.row
  have hlo := H.out.lo
  have PT := Lib.hid (put_c N1.out (tick + 1) fr dst B2 nb c2 xs ⟨Sl.of_own O2, HLN.out, hnb, fun i hi => (hO i hi).1, ⟨by show 0 ≤ tick + 1; omega, by show tick + 1 ≤ 2147483648; omega⟩, hfr, hdst⟩ (fun i hi => ⟨by have := (hO i hi).2; omega, fun hm => by have := (hO i hi).2; have := (hO0 i hm).1; omega⟩))
  go_wp2_with fail
  refine PT.out.mono ?_
  rintro e w2 (⟨h1, rfl, h3⟩ | ⟨h1, A', cap', rfl, h3, h4, h5⟩)
  · go_wp2_with fail
    go_ret
    exact .inl ⟨h1, by simp, N1.out.turn h3 (by simp), hT1.trans h3⟩
  · have N3 := Lib.hid h3
    have T3 := Lib.hid h4
    have hA' := Lib.hid h5
    clear h3 h4 h5
    go_wp2_with fail
    go_ret
    exact .inr ⟨h1, by simp, A', cap', _, rfl, N3.out, (hT1.mono (by simp)).trans T3.out, fun i hi => (by
      rcases hA'.out i hi with h6 | h6
      · exact .inl h6
      · exact .inr (by have := hT1.size; omega)), fun i hi => (hO i hi).2⟩
theorem NetIs.setCut (h : NetIs w g d cb kb s r cut came base A n cap ms sent lost told) {es : Array MapEntry} {k : Nat} {cut' : List (Int × Int)} (hp : PairsIs es k (cutPM cut')) : NetIs (setBlock w cb (.map es k)) g d cb kb s r cut' came base A n cap ms sent lost told ∧ Turn [cb] w (setBlock w cb (.map es k)) := by
  have hap := h.apart
  have hlow := h.low
  have hA := own_ltA h.row
  have T : Turn [cb] w (setBlock w cb (.map es k)) := (Turn.refl [cb] w).setBlock (.inl (by simp)) _
  obtain ⟨es0, k0, h1, h2⟩ := h.cutm
  obtain ⟨es', k', h3, h4⟩ := h.camem
  exact ⟨⟨T.blk h.blk (by simpa using hap.2.1), T.blk h.drw (by simpa using hap.2.2.2.1), ⟨es, k, get_set h1 _, hp⟩, ⟨es', k', T.obj h3 (by simpa using Ne.symm hap.2.2.2.2.2), h4⟩,
    own_turnA h.row T (fun i hi hm => by simp at hm; subst hm; have := (hA _ hi).2; omega), h.len, h.le, fun m hm => ⟨(h.mok m hm).1.turn T (fun i hi hm' => by simp at hm'; subst hm'; have := ((h.mok m hm).2 _ hi).1; omega), (h.mok m hm).2⟩, h.apart, h.low, Nat.le_trans h.lo T.size, h.rok⟩, T⟩
def Healed (w : World) (g d cb kb : Nat) (s : Int) (r : Rl) (cut : List (Int × Int)) (came : List ((Int × Int) × Int)) (base : Nat) (A : Option Addr) (n cap : Nat) (ms : List Ml) (sent lost told : Int) (e : Ending) (w' : World) : Prop :=
  e = .returned (.int .i64 (cut.length : Int)) ∧ NetIs w' g d cb kb s r [] came base A n cap ms sent lost told ∧ Turn [cb] w w'
set_option maxHeartbeats 2000000 in
theorem heal_c (h : NetIs w g d cb kb s r cut came base A n cap ms sent lost told) :
    Calls Try.prog 17 #[.pointer (some ⟨g, 0, none⟩)] w (Healed w g d cb kb s r cut came base A n cap ms sent lost told) := by
  obtain ⟨-, -, -, -, -, c5, -⟩ := h.cells
  have hl := h.lts.1
  obtain ⟨es, k, h1, h2⟩ := h.cutm
  have LN := fun ty => h2.len Try.underlying75 ty w cb h1
  rw [cutPM_len] at LN
  have CL := fun ty => run_clear_map (P := Try.prog) (clock := k) Try.underlying75 ty w cb h1
  have NC := Lib.hid (h.setCut (cut' := []) (es := #[]) (k := k) ⟨MapKept.stamped_empty k, rfl, by simp [cutPM], by simp [cutPM]⟩)
  clear h h2
  go_enter Try.func17, Try.ntmps17
  go_wp2_with fail
  go_ret
  exact ⟨by simp, NC.out.1, NC.out.2⟩
end
end Go.Proofs.Ytiijgokgojjocaa
