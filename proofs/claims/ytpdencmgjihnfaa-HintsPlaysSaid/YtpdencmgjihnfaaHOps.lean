/- Contracts of (*Hints).Next, Drop, Forget, Left. -/
import Derived.Test.YtpdencmgjihnfaaDelF
import Derived.Test.YtpdencmgjihnfaaHints
import Derived.Test.YtpdencmgjihnfaaQDrop
namespace Go.Proofs.Ytpdencmgjihnfaa
open Go.RowKit Go.ChangeMaps

/-- What Next tells. -/
def Nexted (w : World) (h q bm : Nat) (own : C4) (times : Int) (m : QM) (base : Nat) (A : Option Addr) (n cap : Nat) (wl : List C4) (e : Ending) (w' : World) : Prop :=
  (n = 0 ∧ e = .returned (.tuple #[.agg #[.int .i64 0, .int .i64 0, .int .i64 0, .int .i64 0], .bool false]) ∧ Turn [] w w') ∨
  (∃ x1 x2 x3 x4 r n', wl = (x1, x2, x3, x4) :: r ∧ n = n' + 1 ∧ e = .returned (.tuple #[.agg #[.int .i64 x1, .int .i64 x2, .int .i64 x3, .int .i64 x4], .bool true]) ∧ HIs w' h q bm own times m base A n' cap r ∧ Turn (h :: blks A) w w')

set_option maxRecDepth 100000 in
set_option maxHeartbeats 1000000 in
theorem next_c (h q bm : Nat) (own : C4) (times : Int) (m : QM) (base : Nat) (A : Option Addr) (n cap : Nat) (wl : List C4) (w : World) (H : HIs w h q bm own times m base A n cap wl) :
    Calls Try.prog 14 #[.pointer (some ⟨h, 0, none⟩)] w (Nexted w h q bm own times m base A n cap wl) := by
  have HL := Lib.hid (fun wz (hz : Turn [] w wz) => hlen_c h q bm own times m base A n cap wl wz (H.turn hz (by simp) (by simp) (by simp) (by simp)))
  have H0 := Lib.hid H
  have hle := H.le
  by_cases hn : n = 0
  · subst hn
    clear H
    go_enter Try.func14, Try.ntmps14
    go_wp2_with fail
    refine (HL.out _ ((Turn.refl [] w).alloc _)).mono ?_
    rintro e w2 ⟨rfl, rfl⟩
    go_wp2_with fail
    refine bodyPost_ret (v := .tuple #[.agg #[.int .i64 0, .int .i64 0, .int .i64 0, .int .i64 0], .bool false]) ?_ rfl (.inl ⟨rfl, rfl, ?_⟩)
    · simp [results, Try.results14, go_sem]
    · exact (Turn.refl [] w).alloc _
  · obtain ⟨n', rfl⟩ : ∃ n', n = n' + 1 := ⟨n - 1, by omega⟩
    have hwl := H.len
    obtain ⟨⟨x1, x2, x3, x4⟩, r, rfl⟩ : ∃ x r, wl = x :: r := by
      cases wl with
      | nil => simp at hwl
      | cons x r => exact ⟨x, r, rfl⟩
    obtain ⟨g, rfl⟩ : ∃ g, A = some ⟨g, 0, none⟩ := by
      obtain ⟨gg, cap', hv, -⟩ := H.row.form (by omega)
      exact ⟨gg, by injection hv⟩
    obtain ⟨o1, o2, o3, o4⟩ := own
    have lo := H.lo
    have hgb := own_ltA H.row g (by simp [blks])
    have T1 : Turn [] w (w.alloc (.cells #[.int .i64 0, .int .i64 0, .int .i64 0, .int .i64 0] 29)) := (Turn.refl [] w).alloc _
    have H1 := Lib.hid (H.turn T1 (by simp) (by simp) (by simp) (by simp))
    have z1 : (w.alloc (.cells #[.int .i64 0, .int .i64 0, .int .i64 0, .int .i64 0] 29)).heap.size = w.heap.size + 1 := by simp
    have B1 := Blk.new w 29 #[.int .i64 0, .int .i64 0, .int .i64 0, .int .i64 0]
    clear H hwl
    go_enter Try.func14, Try.ntmps14
    go_wp2_with fail
    refine (HL.out _ T1).mono ?_
    have Z1 := Lib.hid z1
    clear z1
    generalize w.alloc (.cells #[.int .i64 0, .int .i64 0, .int .i64 0, .int .i64 0] 29) = w1 at *
    rintro e w2 ⟨rfl, rfl⟩
    obtain ⟨b0, -, -, -, -, b5, hl⟩ := H1.out.cells
    obtain ⟨bb, oo, hA, lb, c0, c1, c2, c3⟩ := ccs_at (Sl.of_own H1.out.row) (k := 0) (by simp)
    cases hA
    simp only [Nat.zero_mul, Nat.zero_add, List.getElem_cons_zero] at c0 c1 c2 c3
    have f5 := H1.out.blk.frozen 5
    have T2 : Turn [] w1 (w1.alloc (.cells #[.int .i64 x1, .int .i64 x2, .int .i64 x3, .int .i64 x4] 29)) := (Turn.refl [] w1).alloc _
    have DL := Lib.hid (delete1_c base g n' cap ((x1, x2, x3, x4) :: r) _ (own_turnA H1.out.row T2 (by simp)) (by omega))
    have H2 := Lib.hid (H1.out.turn T2 (by simp) (by simp) (by simp) (by simp))
    have B2 := T2.blk B1 (by simp)
    have B3 := Blk.new w1 29 #[.int .i64 x1, .int .i64 x2, .int .i64 x3, .int .i64 x4]
    go_wp2_with fail
    refine DL.out.mono ?_
    rintro e w3 ⟨rfl, hown3, hT3⟩
    have gh : h ∉ [g] := by simp; omega
    have H3b := hT3.blk H2.out.blk gh
    have c5 := H3b.cell 5
    have f53 := H3b.frozen 5
    have hl3 := H3b.lt
    have Z := Z1.out
    have B23 := hT3.blk B2 (show w.heap.size ∉ [g] by simp; omega)
    have B33 := hT3.blk B3 (show w1.heap.size ∉ [g] by simp; omega)
    have Ts : Turn [h] w3 (w3.setCell ⟨h, 5, none⟩ (.slice (some ⟨g, 0, none⟩) n' cap)) := (Turn.refl [h] w3).setCell (.inl (by simp)) _
    have H4b : Blk (w3.setCell ⟨h, 5, none⟩ (.slice (some ⟨g, 0, none⟩) n' cap)) h 68 #[.pointer (some ⟨q, 0, none⟩), .int .i64 o1, .int .i64 o2, .int .i64 o3, .int .i64 o4, .slice (some ⟨g, 0, none⟩) n' cap] := by
      simpa using H3b.set_ 5 (.slice (some ⟨g, 0, none⟩) n' cap)
    have B24 := Ts.blk B23 (show w.heap.size ∉ [h] by simp; omega)
    have B34 := Ts.blk B33 (show w1.heap.size ∉ [h] by simp; omega)
    have own4 := own_turnA hown3 Ts (by intro i hi; simp [blks] at hi ⊢; omega)
    have ne := H2.out.ne
    have Q4 := (H2.out.qs.turn hT3 (by simp; omega) (by simp; omega)).turn Ts (by simp; omega) (by simp; omega)
    have z3 := hT3.size
    have z4 := Ts.size
    have TW : Turn [h, g] w (w3.setCell ⟨h, 5, none⟩ (.slice (some ⟨g, 0, none⟩) n' cap)) := (((T1.trans T2).mono (by simp)).trans (hT3.mono (by simp))).trans (Ts.mono (by simp))
    have hr := H0.out.len
    have k0 := B34.cell 0
    have k1 := B34.cell 1
    have k2 := B34.cell 2
    have k3 := B34.cell 3
    have j0 := B24.cell 0
    have j1 := B24.cell 1
    have j2 := B24.cell 2
    have j3 := B24.cell 3
    have e0 := B24.frozen 0
    have e1 := B24.frozen 1
    have e2 := B24.frozen 2
    have e3 := B24.frozen 3
    have jl := B24.lt
    clear Z b0 b5 c0 c1 c2 c3 f5 lb
    go_wp2_with fail
    have H4 : HIs (w3.setCell ⟨h, 5, none⟩ (.slice (some ⟨g, 0, none⟩) n' cap)) h q bm (o1, o2, o3, o4) times m base (some ⟨g, 0, none⟩) n' cap r := ⟨H4b, Q4, by simpa using own4, by simpa using hr, by omega, ne, lo.1, lo.2.1, lo.2.2.1, by omega⟩
    have Z := Z1.out
    have T5 : Turn [w.heap.size] (w3.setCell ⟨h, 5, none⟩ (.slice (some ⟨g, 0, none⟩) n' cap)) (((((w3.setCell ⟨h, 5, none⟩ (.slice (some ⟨g, 0, none⟩) n' cap)).setCell ⟨w.heap.size, 0, none⟩ (.int .i64 x1)).setCell ⟨w.heap.size, 1, none⟩ (.int .i64 x2)).setCell ⟨w.heap.size, 2, none⟩ (.int .i64 x3)).setCell ⟨w.heap.size, 3, none⟩ (.int .i64 x4)) :=
      (((((Turn.refl [w.heap.size] _).setCell (.inl (by simp)) _).setCell (.inl (by simp)) _).setCell (.inl (by simp)) _).setCell (.inl (by simp)) _)
    have hq := H0.out.qs.lt
    refine bodyPost_ret (v := .tuple #[.agg #[.int .i64 x1, .int .i64 x2, .int .i64 x3, .int .i64 x4], .bool true]) ?_ rfl (.inr ⟨x1, x2, x3, x4, r, n', rfl, rfl, rfl, H4.turn T5 (by simp; omega) (by simp; omega) (by simp; omega) (by intro i hi; simp [blks] at hi ⊢; omega), ?_⟩)
    · have r0 := (B24.set_ 0 (.int .i64 x1)).cell 0
      have r1 := ((B24.set_ 0 (.int .i64 x1)).set_ 1 (.int .i64 x2)).cell 1
      have r2 := (((B24.set_ 0 (.int .i64 x1)).set_ 1 (.int .i64 x2)).set_ 2 (.int .i64 x3)).cell 2
      have r3 := ((((B24.set_ 0 (.int .i64 x1)).set_ 1 (.int .i64 x2)).set_ 2 (.int .i64 x3)).set_ 3 (.int .i64 x4)).cell 3
      simp at r0 r1 r2 r3
      simp [results, Try.results14, go_sem, r0, r1, r2, r3]
    · exact TW.andThen T5 (by simp)

theorem hforget_c (h q bm : Nat) (own : C4) (times : Int) (m : QM) (base : Nat) (A : Option Addr) (n cap : Nat) (wl : List C4) (B : Option Addr) (nb cb : Nat) (l : List Int) (w : World) (H : HIs w h q bm own times m base A n cap wl) (hx : Sl w B (i64s l)) (hn : l.length = nb) (hl : nb ≤ 1000000) (hoff : bm ∉ blks B) (hwf : ∀ x ∈ l, (Lit.int .i64 x).wf = true) :
    Calls Try.prog 19 #[.pointer (some ⟨h, 0, none⟩), .slice B nb cb] w fun e w' => e = .returned (.int .i64 ((m.length : Int) - (qdel m l).length)) ∧ HIs w' h q bm own times (qdel m l) base A n cap wl ∧ Turn [bm] w w' := by
  obtain ⟨o1, o2, o3, o4⟩ := own
  obtain ⟨b0, -, -, -, -, b5, hhl⟩ := H.cells
  have QD := Lib.hid (qdrop_c q bm times m B nb cb l w H.qs hx hn hl hoff hwf)
  have H0 := Lib.hid H
  clear H hn hwf hx
  generalize qdel m l = m' at *
  go_enter Try.func19, Try.ntmps19
  go_wp2_with fail
  refine QD.out.mono ?_
  rintro e w2 ⟨rfl, hq, hT⟩
  go_wp2_with fail
  go_ret
  have H := H0.out
  have ne := H.ne
  have lo := H.lo
  have z := hT.size
  exact ⟨by simp, ⟨hT.blk H.blk (by simp; omega), hq, own_turnA H.row hT (fun i hi => by have := (own_ltA H.row i hi).2; simp; omega), H.len, H.le, H.ne, lo.1, lo.2.1, lo.2.2.1, by omega⟩, hT⟩
theorem hleft_c (h q bm : Nat) (own : C4) (times : Int) (m : QM) (base : Nat) (A : Option Addr) (n cap : Nat) (wl : List C4) (s t : Int) (w : World) (H : HIs w h q bm own times m base A n cap wl) (ht : t ≤ 9223372036854775807) :
    Calls Try.prog 24 #[.pointer (some ⟨h, 0, none⟩), .int .i64 s, .int .i64 t] w fun e w' => e = .returned (.int .i64 (qleft m times s t)) ∧ Turn [] w w' := by
  obtain ⟨o1, o2, o3, o4⟩ := own
  obtain ⟨b0, -, -, -, -, b5, hhl⟩ := H.cells
  have QD := Lib.hid (left_c q bm times m s t w H.qs ht)
  clear H
  generalize qleft m times s t = v at *
  go_enter Try.func24, Try.ntmps24
  go_wp2_with fail
  refine QD.out.mono ?_
  rintro e w2 ⟨rfl, hT⟩
  go_wp2_with fail
  go_ret
  exact ⟨by simp, hT⟩

/-- Behind Drop. -/
def HDropped (w : World) (h q bm : Nat) (own : C4) (times : Int) (m : QM) (base : Nat) (A : Option Addr) (n cap : Nat) (wl : List C4) (e : Ending) (w' : World) : Prop :=
  ∃ n' : Nat, n' ≤ n ∧ e = .returned (.int .i64 ((n : Int) - (n' : Int))) ∧ HIs w' h q bm own times m base A n' cap wl ∧ Turn (h :: blks A) w w'
theorem enterD (args : Array Value) (w : World) : (callFunc 33 args).run Try.prog w = .ok (.enter 33 args) w := by kernel_rfl
set_option maxRecDepth 100000 in
set_option maxHeartbeats 1000000 in
theorem hdrop_c (h q bm : Nat) (own : C4) (times : Int) (m : QM) (base : Nat) (A : Option Addr) (n cap : Nat) (wl : List C4) (B : Option Addr) (nb cb : Nat) (l : List C4) (w : World) (H : HIs w h q bm own times m base A n cap wl) (hx : Sl w B (ccs l)) (hn : l.length = nb) (hl : nb ≤ 1000000) (hoff : ∀ i ∈ blks B, i ≠ h ∧ i ∉ blks A) :
    Calls Try.prog 16 #[.pointer (some ⟨h, 0, none⟩), .slice B nb cb] w (HDropped w h q bm own times m base A n cap (wl.filter (fun x => !l.contains x))) := by
  have hmf : ∀ (fn : Fn) (first cap : Array Value) (w : World), (Instr.makeFunc fn first cap).run Try.prog w = .ok (.func fn first cap) w := fun _ _ _ _ => rfl
  have hE := enterD
  have HL := Lib.hid (fun (A : Option Addr) (n : Nat) (wl : List C4) wz (H : HIs wz h q bm own times m base A n cap wl) => hlen_c h q bm own times m base A n cap wl wz H)
  have H0 := Lib.hid H
  have hle := H.le
  have T1 : Turn [] w (w.alloc (.cells #[.slice B nb cb] 31)) := (Turn.refl [] w).alloc _
  have B1 := Blk.new w 31 #[.slice B nb cb]
  have H1 := Lib.hid (H.turn T1 (by simp) (by simp) (by simp) (by simp))
  have hx1 := Lib.hid (hx.turn0 T1)
  have Z1 : Hid ((w.alloc (.cells #[.slice B nb cb] 31)).heap.size = w.heap.size + 1) := by show _ = _; simp
  obtain ⟨o1, o2, o3, o4⟩ := own
  have HOF := Lib.hid hoff
  clear hx H hoff
  have DD : Hid (Calls Try.prog 32 #[.slice A n cap, .func (.func 33) #[] #[.pointer (some ⟨w.heap.size, 0, none⟩)]] (w.alloc (.cells #[.slice B nb cb] 31)) fun e w' => ∃ n', e = .returned (.slice A n' cap) ∧ n' ≤ n ∧
      w'.ownsRow base 29 4 (.slice A n' cap) n' (ccs (wl.filter (fun x => !l.contains x))) ∧ Turn (blks A) (w.alloc (.cells #[.slice B nb cb] 31)) w') := by
    have lo := H0.out.lo
    cases A with
    | none =>
      have hz : n = 0 ∧ cap = 0 := by
        obtain ⟨-, h2⟩ := H0.out.row
        rcases h2 with ⟨h2, -⟩ | ⟨g, c, cur, hv, -⟩
        · cases h2; exact ⟨rfl, rfl⟩
        · cases hv
      obtain ⟨rfl, rfl⟩ := hz
      have hwl : wl = [] := List.eq_nil_of_length_eq_zero H0.out.len
      subst hwl
      refine Lib.hid ((deleteFnil_c 33 (.pointer (some ⟨w.heap.size, 0, none⟩)) (fun x => l.contains x) _ enterD (fun wy hy x1 x2 x3 x4 => among_c w.heap.size B nb cb l x1 x2 x3 x4 wy ((hy.blk B1 (by simp)).cell 0) (hy.blk B1 (by simp)).lt (hx1.out.turn0 hy) hn (by omega))).mono ?_)
      rintro e w' ⟨rfl, hT⟩
      exact ⟨0, rfl, by omega, World.ownsRow_nil _ _ _ _, hT⟩
    | some a =>
      have hA : ∃ g, a = ⟨g, 0, none⟩ := by
        obtain ⟨-, h2⟩ := H0.out.row
        rcases h2 with ⟨h2, -⟩ | ⟨g, c, cur, hv, -⟩
        · cases h2
        · cases hv
          exact ⟨g, rfl⟩
      obtain ⟨g, rfl⟩ := hA
      have hg := own_ltA H0.out.row g (by simp [blks])
      refine Lib.hid ((deleteF_c 33 (.pointer (some ⟨w.heap.size, 0, none⟩)) (fun x => l.contains x) base g n cap wl _ H1.out.row (by omega) enterD (fun wy hy x1 x2 x3 x4 => among_c w.heap.size B nb cb l x1 x2 x3 x4 wy ((hy.blk B1 (by simp; omega)).cell 0) (hy.blk B1 (by simp; omega)).lt (hx1.out.turn hy (off_blks (fun i hi hm => (HOF.out i hi).2 (by simpa [blks] using hm)))) hn (by omega))).mono ?_)
      rintro e w' ⟨n', rfl, hn', ho, hT⟩
      exact ⟨n', rfl, hn', ho, by simpa [blks] using hT⟩
  have hl1 := Lib.hid H0.out.len
  clear hn hle
  go_enter Try.func16, Try.ntmps16
  go_wp2_with fail
  refine (HL.out _ _ _ _ H1.out).mono ?_
  generalize w.alloc (.cells #[.slice B nb cb] 31) = w1 at *
  obtain ⟨b0, -, -, -, -, b5, hhl⟩ := H1.out.cells
  rintro e w2 ⟨rfl, rfl⟩
  go_wp2_with fail
  refine DD.out.mono ?_
  rintro e w3 ⟨n', rfl, hn', ho, hT⟩
  have lo := H0.out.lo
  have ne := H0.out.ne
  have hA := fun i hi => (own_ltA H0.out.row i hi)
  have hhA : h ∉ blks A := fun hm => by have := (hA h hm).2; omega
  have hqA : q ∉ blks A := fun hm => by have := (hA q hm).2; omega
  have hbA : bm ∉ blks A := fun hm => by have := (hA bm hm).2; omega
  have H3b := hT.blk H1.out.blk hhA
  have b5 := H3b.cell 5
  have f5 := H3b.frozen 5
  have hl3 := H3b.lt
  have Ts : Turn [h] w3 (w3.setCell ⟨h, 5, none⟩ (.slice A n' cap)) := (Turn.refl [h] w3).setCell (.inl (by simp)) _
  have H4b : Blk (w3.setCell ⟨h, 5, none⟩ (.slice A n' cap)) h 68 #[.pointer (some ⟨q, 0, none⟩), .int .i64 o1, .int .i64 o2, .int .i64 o3, .int .i64 o4, .slice A n' cap] := by
    simpa using H3b.set_ 5 (.slice A n' cap)
  have own4 := own_turnA ho Ts (by intro i hi hm; simp at hm; subst hm; exact hhA hi)
  have Q4 := (H1.out.qs.turn hT hqA hbA).turn Ts (by simp; omega) (by simp; omega)
  have z3 := hT.size
  have z4 := Ts.size
  have hfl : (wl.filter (fun x => !l.contains x)).length = n' := by have := ho.1; rw [ccs_len] at this; omega
  have z0 := T1.size
  have hle := H0.out.le
  have H4 := Lib.hid (show HIs (w3.setCell ⟨h, 5, none⟩ (.slice A n' cap)) h q bm (o1, o2, o3, o4) times m base A n' cap (wl.filter (fun x => !l.contains x)) from ⟨H4b, Q4, own4, hfl, by omega, ne, lo.1, lo.2.1, lo.2.2.1, by omega⟩)
  have T4 : Turn (h :: blks A) w (w3.setCell ⟨h, 5, none⟩ (.slice A n' cap)) := ((T1.mono (by simp)).trans (hT.mono (fun i hi => List.mem_cons_of_mem _ hi))).trans (Ts.mono (by simp))
  have hsub : IntKind.i64.wrap ((n : Int) - (n' : Int)) = (n : Int) - (n' : Int) := IntWalk.i64_in _ (by omega)
  clear hfl own4 Q4 H4b ho
  go_wp2_with fail
  refine (HL.out _ _ _ _ H4.out).mono ?_
  generalize w3.setCell ⟨h, 5, none⟩ (.slice A n' cap) = w4 at *
  rintro e w5 ⟨rfl, rfl⟩
  go_wp2_with fail
  go_ret
  exact ⟨n', hn', by simp, H4.out, T4⟩
end Go.Proofs.Ytpdencmgjihnfaa
