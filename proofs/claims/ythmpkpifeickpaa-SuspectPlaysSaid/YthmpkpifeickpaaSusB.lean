/- Contracts of suspect.Probes: such at nil maps, Len, Begin, Since. -/
import Derived.Test.YthmpkpifeickpaaSus
namespace Go.Proofs.Ythmpkpifeickpaa
open Go.RowKit Go.ChangeMaps Go.MapKept
open Go.Maps (Keyed int_keyed keyOf_int_mk)

theorem zeroPr (w : World) : (zeroValue 55).run Try.prog w = .ok (pv (0, false)) w := by kernel_rfl

/-- Block p is Probes, whose map is mb, and reads as m. -/
structure PIs (w : World) (p : Nat) (mb : Option Nat) (m : PM) : Prop where
  blk : Blk w p 25 #[.map mb]
  nil : mb = none → m = []
  map : ∀ b, mb = some b → p ≠ b ∧ ∃ es clock, w.heap[b]? = some (.map es clock) ∧ MapIs Try.prog 3 es clock (kv pv m)
  len : m.length ≤ 16
  rises : Rises m
  ok : ∀ x ∈ m, 1 ≤ x.1 ∧ x.1 ≤ 65535 ∧ 0 ≤ x.2.1 ∧ x.2.1 ≤ 1073741824
theorem PIs.turn {w w' : World} {p : Nat} {mb : Option Nat} {m : PM} {S : List Nat} (h : PIs w p mb m) (hT : Turn S w w') (hp : p ∉ S) (hb : ∀ b, mb = some b → b ∉ S) : PIs w' p mb m :=
  ⟨hT.blk h.blk hp, h.nil, fun b hbb => by obtain ⟨h1, es, clock, h2, h3⟩ := h.map b hbb; exact ⟨h1, es, clock, hT.obj h2 (hb b hbb), h3⟩, h.len, h.rises, h.ok⟩

def SuchPost (p : Nat) (m : PM) (is : Int × Bool → Bool) (w : World) (e : Ending) (w' : World) : Prop :=
  ∃ D nn cd, e = .returned (.slice D nn cd) ∧ w'.ownsRow w.heap.size 3 1 (.slice D nn cd) nn (i64s (idsOf is m)) ∧ Turn [] w w'
set_option maxHeartbeats 1000000 in
theorem such_n1 (p : Nat) (F : FuncId) (v : Value) (w : World) (hp : Blk w p 25 #[.map none]) :
    Calls Try.prog 19 #[.pointer (some ⟨p, 0, none⟩), .func (.func F) #[] #[v]] w fun e w' => e = .returned (.slice none 0 0) ∧ Turn [] w w' := by
  have c0 := hp.cell 0
  have hl := hp.lt
  have hr0 := fun w => run_range_nilMap (P := Try.prog) w 23 3 55 Try.underlying23
  have hn0 := fun w ty a b s => run_next_nilMap (P := Try.prog) w ty a b s
  go_enter Try.func19, Try.ntmps19
  go_wp2_with fail
  go_loopw [5] (fun out wr => out = .slice none 0 0 ∧ wr = w.alloc (.mapIter none 0 #[] 0)) (fun _ _ => 0)
  case atStart => exact ⟨rfl, rfl⟩
  case round =>
    obtain ⟨rfl, rfl⟩ := hrel
    go_wp2_with fail
    refine (sort_c w.heap.size none 0 0 [] _ (World.ownsRow_nil _ _ _ _) (by omega)).mono ?_
    rintro e w1 ⟨rfl, hs, hTs⟩
    go_wp2_with fail
    go_ret
    exact ⟨by simp, ((Turn.refl [] w).alloc _).trans hTs⟩
set_option maxHeartbeats 1000000 in
theorem such_n0 (p : Nat) (F : FuncId) (w : World) (hp : Blk w p 25 #[.map none]) :
    Calls Try.prog 19 #[.pointer (some ⟨p, 0, none⟩), .func (.func F) #[] #[]] w fun e w' => e = .returned (.slice none 0 0) ∧ Turn [] w w' := by
  have c0 := hp.cell 0
  have hl := hp.lt
  have hr0 := fun w => run_range_nilMap (P := Try.prog) w 23 3 55 Try.underlying23
  have hn0 := fun w ty a b s => run_next_nilMap (P := Try.prog) w ty a b s
  go_enter Try.func19, Try.ntmps19
  go_wp2_with fail
  go_loopw [5] (fun out wr => out = .slice none 0 0 ∧ wr = w.alloc (.mapIter none 0 #[] 0)) (fun _ _ => 0)
  case atStart => exact ⟨rfl, rfl⟩
  case round =>
    obtain ⟨rfl, rfl⟩ := hrel
    go_wp2_with fail
    refine (sort_c w.heap.size none 0 0 [] _ (World.ownsRow_nil _ _ _ _) (by omega)).mono ?_
    rintro e w1 ⟨rfl, hs, hTs⟩
    go_wp2_with fail
    go_ret
    exact ⟨by simp, ((Turn.refl [] w).alloc _).trans hTs⟩
theorem such_p1 (p : Nat) (mb : Option Nat) (m : PM) (F : FuncId) (v : Value) (is : Int × Bool → Bool) (w : World) (h : PIs w p mb m) (hF : ∀ args w, (callFunc F args).run Try.prog w = .ok (.enter F args) w)
    (H : ∀ wz, Turn [] w wz → ∀ (s : Int) (t : Bool), Calls Try.prog F #[.agg #[.int .i64 s, .bool t], v] wz fun e w' => e = .returned (.bool (is (s, t))) ∧ Turn [] wz w') :
    Calls Try.prog 19 #[.pointer (some ⟨p, 0, none⟩), .func (.func F) #[] #[v]] w (SuchPost p m is w) := by
  cases mb with
  | none =>
    have hm := h.nil rfl
    subst hm
    refine (such_n1 p F v w h.blk).mono ?_
    rintro e w' ⟨rfl, hT⟩
    exact ⟨none, 0, 0, rfl, World.ownsRow_nil _ _ _ _, hT⟩
  | some b =>
    obtain ⟨-, es, clock, h2, h3⟩ := h.map b rfl
    exact such_c1 p b m F v is es clock w h.blk h2 h3 h.len h.rises hF H
theorem such_p0 (p : Nat) (mb : Option Nat) (m : PM) (F : FuncId) (is : Int × Bool → Bool) (w : World) (h : PIs w p mb m) (hF : ∀ args w, (callFunc F args).run Try.prog w = .ok (.enter F args) w)
    (H : ∀ wz, Turn [] w wz → ∀ (s : Int) (t : Bool), Calls Try.prog F #[.agg #[.int .i64 s, .bool t]] wz fun e w' => e = .returned (.bool (is (s, t))) ∧ Turn [] wz w') :
    Calls Try.prog 19 #[.pointer (some ⟨p, 0, none⟩), .func (.func F) #[] #[]] w (SuchPost p m is w) := by
  cases mb with
  | none =>
    have hm := h.nil rfl
    subst hm
    refine (such_n0 p F w h.blk).mono ?_
    rintro e w' ⟨rfl, hT⟩
    exact ⟨none, 0, 0, rfl, World.ownsRow_nil _ _ _ _, hT⟩
  | some b =>
    obtain ⟨-, es, clock, h2, h3⟩ := h.map b rfl
    exact such_c0 p b m F is es clock w h.blk h2 h3 h.len h.rises hF H

theorem plen_c (p : Nat) (mb : Option Nat) (m : PM) (w : World) (h : PIs w p mb m) :
    Calls Try.prog 8 #[.pointer (some ⟨p, 0, none⟩)] w fun e w' => e = .returned (.int .i64 m.length) ∧ w = w' := by
  have c0 := h.blk.cell 0
  have hl := h.blk.lt
  cases mb with
  | none =>
    have hm := h.nil rfl
    subst hm
    clear h
    go_enter Try.func8, Try.ntmps8
    go_wp2_with fail
    go_ret
    exact ⟨by simp, rfl⟩
  | some b =>
    obtain ⟨-, es, clock, h2, h3⟩ := h.map b rfl
    have N := h3.len Try.underlying23 3 w b h2
    rw [kv_length] at N
    clear h h2 h3
    go_enter Try.func8, Try.ntmps8
    go_wp2_with fail
    go_ret
    exact ⟨by simp, rfl⟩

/-- Begin's answer. -/
def beginM (m : PM) (id t : Int) : Int × PM :=
  if id < 1 ∨ 65535 < id ∨ t < 0 ∨ 1073741824 < t then (10, m) else if (kget m id).isSome then (8, m) else if m.length = 16 then (6, m) else (0, kput m id (t, false))
def BeginPost (p : Nat) (mb : Option Nat) (V : Int × PM) (w : World) (e : Ending) (w' : World) : Prop :=
  ∃ mb', e = .returned (.int .i64 V.1) ∧ PIs w' p mb' V.2 ∧ (∀ b, mb' = some b → mb = some b ∨ w.heap.size ≤ b) ∧ Turn (p :: mb.toList) w w'
theorem eqmap_none (w : World) : (binOp .eql 23 (.map none) (.map none)).run Try.prog w = .ok (.bool true) w := by kernel_rfl
theorem eqmap_some (b : Nat) (w : World) : (binOp .eql 23 (.map (some b)) (.map none)).run Try.prog w = .ok (.bool false) w := by kernel_rfl
theorem lookup_nilP (id : Int) (hw : (Lit.int .i64 id).wf = true) (w : World) : (Instr.lookup 23 (.map none) (.int .i64 id) true).run Try.prog w = .ok (.tuple #[.agg #[.int .i64 0, .bool false], .bool false]) w := by
  have hz := zeroPr w
  simp only [pv] at hz
  have hk := (int_keyed Try.underlying3).check w true (keyOf_int_mk Try.underlying3 hw)
  have hf : (Instr.findKey 3 (.int .i64 id) []).run Try.prog w = .ok none w := by
    rcases find_u Try.underlying3 (keyOf_int_mk Try.underlying3 hw) [] (by simp) with ⟨h1, _⟩ | ⟨j, e0, _, h2, _⟩
    · exact h1 w
    · simp at h2
  simp [Instr.lookup, run_underlying Try.underlying23, hz, Result.andThen, hk, hf]
set_option maxRecDepth 100000 in
set_option maxHeartbeats 1000000 in
theorem begin_c (p : Nat) (mb : Option Nat) (m : PM) (id t : Int) (w : World) (h : PIs w p mb m) :
    Calls Try.prog 6 #[.pointer (some ⟨p, 0, none⟩), .int .i64 id, .int .i64 t] w (BeginPost p mb (beginM m id t) w) := by
  have h0 := Lib.hid h
  have c0 := h.blk.cell 0
  have f0 := h.blk.frozen 0
  have hl := h.blk.lt
  have hlen := h.len
  by_cases hbad : id < 1 ∨ 65535 < id ∨ t < 0 ∨ 1073741824 < t
  · have hv : Hid (beginM m id t = (10, m)) := by show beginM m id t = _; rw [beginM, if_pos hbad]
    generalize beginM m id t = V at *
    by_cases g1 : id < 1
    · clear hbad
      go_enter Try.func6, Try.ntmps6
      go_wp2_with fail
      go_ret
      exact ⟨mb, by rw [hv.out]; simp, by rw [hv.out]; exact h0.out, fun b hb => .inl hb, Turn.refl _ _⟩
    by_cases g2 : 65535 < id
    · clear hbad
      go_enter Try.func6, Try.ntmps6
      go_wp2_with fail
      go_ret
      exact ⟨mb, by rw [hv.out]; simp, by rw [hv.out]; exact h0.out, fun b hb => .inl hb, Turn.refl _ _⟩
    by_cases g3 : t < 0
    · clear hbad
      go_enter Try.func6, Try.ntmps6
      go_wp2_with fail
      go_ret
      exact ⟨mb, by rw [hv.out]; simp, by rw [hv.out]; exact h0.out, fun b hb => .inl hb, Turn.refl _ _⟩
    · have g4 : 1073741824 < t := by omega
      clear hbad
      go_enter Try.func6, Try.ntmps6
      go_wp2_with fail
      go_ret
      exact ⟨mb, by rw [hv.out]; simp, by rw [hv.out]; exact h0.out, fun b hb => .inl hb, Turn.refl _ _⟩
  have g1 : ¬ id < 1 := by omega
  have g2 : ¬ 65535 < id := by omega
  have g3 : ¬ t < 0 := by omega
  have g4 : ¬ 1073741824 < t := by omega
  have hv : Hid (beginM m id t = if (kget m id).isSome then (8, m) else if m.length = 16 then (6, m) else (0, kput m id (t, false))) := by show beginM m id t = _; rw [beginM, if_neg hbad]
  generalize beginM m id t = V at *
  clear hbad
  have wf : (Lit.int .i64 id).wf = true := by simp [Lit.wf, IntKind.min, IntKind.max, IntKind.signed, IntKind.bits]; omega
  cases mb with
  | none =>
    have hm := h.nil rfl
    subst hm
    have hv1 : Hid (V = (0, [(id, t, false)])) := by show V = _; rw [hv.out]; rfl
    obtain ⟨es', clock', hM', U⟩ := (MapIs.empty Try.prog 3).store Try.underlying3 Try.underlying23 (by unfold maxLen; simp) wf (pv (t, false))
    have hmm := @run_makeMap Try.prog
    have hlk := lookup_nilP id wf
    have hqn := eqmap_none
    clear h hv
    go_enter Try.func6, Try.ntmps6
    have hgt : (((w.setCell ⟨p, 0, none⟩ (.map (some (w.heap.size + 1)))).alloc (.cells #[.int .i64 0, .bool false] 55)).alloc (.map #[] 0)).heap[w.heap.size + 1]? = some (.map #[] 0) := by
      have := (heap_alloc ((w.setCell ⟨p, 0, none⟩ (.map (some (w.heap.size + 1)))).alloc (.cells #[.int .i64 0, .bool false] 55)) (.map #[] 0)).1
      simpa using this
    have TA : Turn [p] w (((w.setCell ⟨p, 0, none⟩ (.map (some (w.heap.size + 1)))).alloc (.cells #[.int .i64 0, .bool false] 55)).alloc (.map #[] 0)) := (((Turn.refl [p] w).setCell (.inl (by simp)) _).alloc _).alloc _
    have BA : Blk (((w.setCell ⟨p, 0, none⟩ (.map (some (w.heap.size + 1)))).alloc (.cells #[.int .i64 0, .bool false] 55)).alloc (.map #[] 0)) p 25 #[.map (some (w.heap.size + 1))] := by
      have := ((h0.out.blk.set_ 0 (.map (some (w.heap.size + 1)))).alloc (.cells #[.int .i64 0, .bool false] 55)).alloc (.map #[] 0)
      simpa using this
    simp only [pv] at U
    have U1 := U _ _ hgt
    have HM := Lib.hid hM'
    have HGT := Lib.hid hgt
    clear hM' U hgt
    go_wp2_with fail
    go_ret
    have hgt := HGT.out
    have hne : p ≠ w.heap.size + 1 := by omega
    refine ⟨some (w.heap.size + 1), by rw [hv1.out]; simp, ?_, fun b hb => .inr (by cases hb; omega), (TA.setBlock (.inr (by omega)) _).mono (by simp)⟩
    rw [hv1.out]
    refine ⟨get_setBlock BA hne _, by simp, fun b hb => ?_, by simp, by simp [Rises], fun x hx => ?_⟩
    · cases hb
      exact ⟨hne, es', clock', get_set hgt _, HM.out⟩
    · simp at hx
      subst hx
      simp
      omega
  | some b =>
    obtain ⟨hpb, es, clock, h2, h3⟩ := h.map b rfl
    have L := h3.look_ok Try.underlying3 Try.underlying23 zeroPr wf
    rw [kget_kv] at L
    have N := h3.len Try.underlying23 3
    rw [kv_length] at N
    have hqn := eqmap_some b
    obtain ⟨es', clock', hM', U⟩ := h3.store Try.underlying3 Try.underlying23 (by rw [kv_length]; unfold maxLen; omega) wf (pv (t, false))
    rw [kput_kv] at hM'
    simp only [pv] at U
    have hbl := lt_of_some h2
    have HM := Lib.hid hM'
    have hrs := h.rises
    have hok := h.ok
    have hal := fun o => get_alloc h2 o
    have hks : ∃ za zb, ((kget m id).map pv).getD (pv (0, false)) = .agg #[.int .i64 za, .bool zb] := by cases kget m id <;> exact ⟨_, _, rfl⟩
    obtain ⟨za, zb, hks⟩ := hks
    rw [hks] at L
    have hsm : ((kget m id).map pv).isSome = (kget m id).isSome := by cases kget m id <;> rfl
    rw [hsm] at L
    have L1 := L w b h2
    have N1 := N (w.alloc (.cells #[.int .i64 za, .bool zb] 55)) b (get_alloc h2 _)
    have U1 := U (w.alloc (.cells #[.int .i64 za, .bool zb] 55)) b (get_alloc h2 _)
    have TA : Turn [p, b] w (w.alloc (.cells #[.int .i64 za, .bool zb] 55)) := (Turn.refl _ w).alloc _
    clear hM' h3 h hks hsm L N U
    cases hk : (kget m id).isSome with
    | true =>
      have hv1 : Hid (V = (8, m)) := by show V = _; rw [hv.out, if_pos hk]
      rw [hk] at L1
      clear hk hv
      go_enter Try.func6, Try.ntmps6
      go_wp2_with fail
      go_ret
      exact ⟨some b, by rw [hv1.out]; simp, by rw [hv1.out]; exact h0.out.turn ((Turn.refl [] w).alloc _) (by simp) (by simp), fun b' hb => .inl hb, by simpa using TA⟩
    | false =>
      rw [hk] at L1
      by_cases h16 : m.length = 16
      · have hv1 : Hid (V = (6, m)) := by show V = _; rw [hv.out, if_neg (by rw [hk]; simp), if_pos h16]
        have h16' : ((m.length : Int) == 16) = true := by simp; omega
        clear hk hv
        go_enter Try.func6, Try.ntmps6
        go_wp2_with fail
        go_ret
        exact ⟨some b, by rw [hv1.out]; simp, by rw [hv1.out]; exact h0.out.turn ((Turn.refl [] w).alloc _) (by simp) (by simp), fun b' hb => .inl hb, by simpa using TA⟩
      · have hv1 : Hid (V = (0, kput m id (t, false))) := by show V = _; rw [hv.out, if_neg (by rw [hk]; simp), if_neg h16]
        have h16' : ((m.length : Int) == 16) = false := by simp; omega
        have hnone : kget m id = none := by cases hx : kget m id with | none => rfl | some x => rw [hx] at hk; cases hk
        have hl1 := kput_length_new (v := (t, false)) hnone
        clear hk hv
        go_enter Try.func6, Try.ntmps6
        go_wp2_with fail
        go_ret
        refine ⟨some b, by rw [hv1.out]; simp, ?_, fun b' hb => .inl hb, (TA.setBlock (.inl (by simp)) _).mono (by simp)⟩
        rw [hv1.out]
        refine ⟨get_setBlock (h0.out.blk.alloc _) hpb _, by simp, fun b' hb => ?_, by show (kput m id (t, false)).length ≤ 16; omega, rises_kput hrs, fun x hx => ?_⟩
        · cases hb
          exact ⟨hpb, es', clock', get_set (get_alloc h2 _) _, HM.out⟩
        · rcases mem_kput.1 hx with rfl | ⟨hx, _⟩
          · simp; omega
          · exact hok x hx
end Go.Proofs.Ythmpkpifeickpaa
