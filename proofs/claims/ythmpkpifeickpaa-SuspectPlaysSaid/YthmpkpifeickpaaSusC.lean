/- Contracts of suspect.Probes: Answer, the closures, Step. -/
import Derived.Test.YthmpkpifeickpaaSusB
import Derived.Deep.RegionHeld3
import Derived.Deep.QuietTactic
import Derived.BigQuiet
namespace Go.Proofs.Ythmpkpifeickpaa
open Go.RowKit Go.ChangeMaps Go.MapKept
open Go.Maps (Keyed int_keyed keyOf_int_mk)

def failB (t : Int) (x : Int × Bool) : Bool := decide (x.1 ≤ t - 12)
def toldB (t : Int) (x : Int × Bool) : Bool := !x.2 && decide (x.1 ≤ t - 4)
theorem enterS1 (args : Array Value) (w : World) : (callFunc 20 args).run Try.prog w = .ok (.enter 20 args) w := by kernel_rfl
theorem enterS2 (args : Array Value) (w : World) : (callFunc 21 args).run Try.prog w = .ok (.enter 21 args) w := by kernel_rfl
theorem enterO (args : Array Value) (w : World) : (callFunc 22 args).run Try.prog w = .ok (.enter 22 args) w := by kernel_rfl
theorem enterD (args : Array Value) (w : World) : (callFunc 23 args).run Try.prog w = .ok (.enter 23 args) w := by kernel_rfl
theorem step1_c (tb : Nat) (t s : Int) (b : Bool) (w : World) (h0 : 0 ≤ t) (h1 : t ≤ 9223372036854775807) (hc : w.cell? ⟨tb, 0, none⟩ = some (.int .i64 t)) (hl : tb < w.heap.size) :
    Calls Try.prog 20 #[.agg #[.int .i64 s, .bool b], .pointer (some ⟨tb, 0, none⟩)] w fun e w' => e = .returned (.bool (failB t (s, b))) ∧ Turn [] w w' := by
  have hw : IntKind.i64.wrap (t - 12) = t - 12 := IntWalk.i64_in _ (by omega)
  go_enter Try.func20, Try.ntmps20
  go_wp2_with fail
  go_ret
  exact ⟨by simp [failB], (Turn.refl _ _).alloc _⟩
theorem step2_c (tb : Nat) (t s : Int) (b : Bool) (w : World) (h0 : 0 ≤ t) (h1 : t ≤ 9223372036854775807) (hc : w.cell? ⟨tb, 0, none⟩ = some (.int .i64 t)) (hl : tb < w.heap.size) :
    Calls Try.prog 21 #[.agg #[.int .i64 s, .bool b], .pointer (some ⟨tb, 0, none⟩)] w fun e w' => e = .returned (.bool (toldB t (s, b))) ∧ Turn [] w w' := by
  have hw : IntKind.i64.wrap (t - 4) = t - 4 := IntWalk.i64_in _ (by omega)
  cases b
  · go_enter Try.func21, Try.ntmps21
    go_wp2_with fail
    go_ret
    exact ⟨by simp [toldB], (Turn.refl _ _).alloc _⟩
  · go_enter Try.func21, Try.ntmps21
    go_wp2_with fail
    go_ret
    exact ⟨by simp [toldB], (Turn.refl _ _).alloc _⟩
theorem open1_c (s : Int) (b : Bool) (w : World) :
    Calls Try.prog 22 #[.agg #[.int .i64 s, .bool b]] w fun e w' => e = .returned (.bool ((fun _ => true : Int × Bool → Bool) (s, b))) ∧ Turn [] w w' := by
  go_enter Try.func22, Try.ntmps22
  go_wp2_with fail
  go_ret
  exact ⟨by simp, by first | exact (Turn.refl _ _).alloc _ | exact Turn.refl _ _⟩
theorem direct1_c (s : Int) (b : Bool) (w : World) :
    Calls Try.prog 23 #[.agg #[.int .i64 s, .bool b]] w fun e w' => e = .returned (.bool ((fun x => !x.2 : Int × Bool → Bool) (s, b))) ∧ Turn [] w w' := by
  go_enter Try.func23, Try.ntmps23
  go_wp2_with fail
  go_ret
  exact ⟨by simp, by first | exact (Turn.refl _ _).alloc _ | exact Turn.refl _ _⟩
theorem openP_c (p : Nat) (mb : Option Nat) (m : PM) (w : World) (h : PIs w p mb m) : Calls Try.prog 17 #[.pointer (some ⟨p, 0, none⟩)] w (SuchPost p m (fun _ => true) w) := by
  have SC := Lib.hid (such_p0 p mb m 22 (fun _ => true) w h enterO (fun wz _ s t => open1_c s t wz))
  clear h
  go_enter Try.func17, Try.ntmps17
  go_wp2_with fail
  refine SC.out.mono ?_
  rintro e w1 ⟨D, nn, cd, rfl, ho, hT⟩
  go_wp2_with fail
  go_ret
  exact ⟨D, nn, cd, by simp, ho, hT⟩
theorem directP_c (p : Nat) (mb : Option Nat) (m : PM) (w : World) (h : PIs w p mb m) : Calls Try.prog 18 #[.pointer (some ⟨p, 0, none⟩)] w (SuchPost p m (fun x => !x.2) w) := by
  have SC := Lib.hid (such_p0 p mb m 23 (fun x => !x.2) w h enterD (fun wz _ s t => direct1_c s t wz))
  clear h
  go_enter Try.func18, Try.ntmps18
  go_wp2_with fail
  refine SC.out.mono ?_
  rintro e w1 ⟨D, nn, cd, rfl, ho, hT⟩
  go_wp2_with fail
  go_ret
  exact ⟨D, nn, cd, by simp, ho, hT⟩

/-- Answer: without these. -/
def answerM (m : PM) (l : List Int) : PM := l.foldl kdel m
theorem answerM_mem (l : List Int) : ∀ (m : PM) (x : Int × Int × Bool), x ∈ answerM m l ↔ x ∈ m ∧ x.1 ∉ l := by
  induction l with
  | nil => intro m x; simp [answerM]
  | cons a r ih =>
    intro m x
    have := ih (kdel m a) x
    simp only [answerM, List.foldl_cons] at this ⊢
    rw [this, mem_kdel]
    simp [and_assoc]
theorem answerM_rises (l : List Int) : ∀ (m : PM), Rises m → Rises (answerM m l) := by
  induction l with
  | nil => intro m h; exact h
  | cons a r ih => intro m h; exact ih _ (rises_kdel h)
theorem kdel_len_le (m : PM) (k : Int) : (kdel m k).length ≤ m.length := List.length_filter_le _ _
theorem answerM_len (l : List Int) : ∀ (m : PM), (answerM m l).length ≤ m.length := by
  induction l with
  | nil => intro m; exact Nat.le_refl _
  | cons a r ih => intro m; exact Nat.le_trans (ih _) (kdel_len_le m a)
theorem PIs.del {w : World} {p : Nat} {mb : Option Nat} {m m' : PM} (h : PIs w p mb m) (hs : ∀ x ∈ m', x ∈ m) (hl : m'.length ≤ m.length) (hr : Rises m') {w' : World} (hb : Blk w' p 25 #[.map mb]) (hn : mb = none → m' = []) (hm : ∀ b, mb = some b → ∃ es clock, w'.heap[b]? = some (.map es clock) ∧ MapIs Try.prog 3 es clock (kv pv m')) : PIs w' p mb m' :=
  ⟨hb, hn, fun b hb => ⟨(h.map b hb).1, hm b hb⟩, by have := h.len; omega, hr, fun x hx => h.ok x (hs x hx)⟩

theorem delete_nilP (id : Int) (hw : (Lit.int .i64 id).wf = true) (w : World) : (Builtin.delete_ #[23, 3] 0 #[.map none, .int .i64 id]).run Try.prog w = .ok (.tuple #[]) w := by
  have hk := (int_keyed Try.underlying3).check w false (keyOf_int_mk Try.underlying3 hw)
  have hk2 := (int_keyed Try.underlying3).check w true (keyOf_int_mk Try.underlying3 hw)
  simp [Builtin.delete_, run_underlying Try.underlying23, Result.andThen, hk, hk2]
set_option maxRecDepth 100000 in
set_option maxHeartbeats 1000000 in
theorem answer_c (p : Nat) (mb : Option Nat) (m : PM) (A : Option Addr) (n c : Nat) (l : List Int) (w : World) (h : PIs w p mb m) (hx : Sl w A (i64s l)) (hn : l.length = n) (hl : n ≤ 1000000) (hoff : ∀ i ∈ blks A, i ≠ p ∧ mb ≠ some i) (hwf : ∀ x ∈ l, (Lit.int .i64 x).wf = true) :
    Calls Try.prog 7 #[.pointer (some ⟨p, 0, none⟩), .slice A n c] w fun e w' => e = .returned (.int .i64 ((m.length : Int) - (answerM m l).length)) ∧ PIs w' p mb (answerM m l) ∧ Turn mb.toList w w' := by
  have HN := Lib.hid hn
  have LN := Lib.hid (plen_c p mb m w h)
  have h0 := Lib.hid h
  have hml := h.len
  clear hn h
  go_enter Try.func7, Try.ntmps7
  go_wp2_with fail
  refine LN.out.mono ?_
  rintro e w1 ⟨rfl, rfl⟩
  go_wp2_with fail
  go_loopw [12] (fun i wr => ∃ k : Nat, k ≤ n ∧ i = .int .i64 k ∧ PIs wr p mb (answerM m (l.take k)) ∧ Turn mb.toList w wr) (fun i _ => n - (intOf i).toNat)
  case atStart => exact ⟨0, Nat.zero_le _, rfl, h0.out, Turn.refl _ _⟩
  case round =>
    obtain ⟨k, hk, rfl, hP, hT⟩ := hrel
    have i0 : (0 : Int) ≤ (k : Int) := Int.natCast_nonneg _
    have hpm : ∀ b, mb = some b → p ≠ b := fun b hb => (hP.map b hb).1
    by_cases hlt : k < n
    · have i1 : (k : Int) < (n : Int) := by omega
      have kx : k < l.length := by rw [HN.out]; exact hlt
      have hxr := hx.turn hT (off_blks (fun i hi hm => (hoff i hi).2 (by simpa using hm)))
      obtain ⟨b1, o1, rfl, l1, q0⟩ := i64s_at hxr kx
      have hstep : Hid (answerM m (l.take (k + 1)) = kdel (answerM m (l.take k)) l[k]) := by
        show List.foldl kdel m (l.take (k + 1)) = kdel (List.foldl kdel m (l.take k)) l[k]
        rw [List.take_succ_eq_append_getElem kx, List.foldl_append]
        rfl
      have wf := hwf l[k] (List.getElem_mem kx)
      have c0 := hP.blk.cell 0
      have hpl := hP.blk.lt
      have HP := Lib.hid hP
      have hlen' := hP.len
      have hrs := hP.rises
      clear hxr
      generalize l[k] = x at *
      generalize answerM m (l.take k) = mk at *
      cases mb with
      | none =>
        have hm := hP.nil rfl
        subst hm
        have hdl := delete_nilP x wf
        clear hP
        go_wp2_with fail
        go_roundw
        case rel => exact ⟨k + 1, by omega, by go_num, by rw [hstep.out]; exact HP.out, hT⟩
        case measure => simp [intOf]; omega
      | some b =>
        obtain ⟨hpb, es, clock, h2, h3⟩ := hP.map b rfl
        obtain ⟨es', hM', U⟩ := h3.drop Try.underlying3 Try.underlying23 wf 0
        rw [kdel_kv] at hM'
        have U1 := U wr b h2
        have HM := Lib.hid hM'
        have H2 := Lib.hid h2
        clear hP h3 hM' U
        go_wp2_with fail
        go_roundw
        case rel =>
          refine ⟨k + 1, by omega, by go_num, ?_, hT.setBlock (.inl (by simp)) _⟩
          rw [hstep.out]
          exact HP.out.del (fun x hx => (mem_kdel.1 hx).1) (kdel_len_le _ _) (rises_kdel hrs) (get_setBlock HP.out.blk hpb _) (by simp) (fun b' hb => by cases hb; exact ⟨es', clock, get_set H2.out _, HM.out⟩)
        case measure => simp [intOf]; omega
    · obtain rfl : k = n := by omega
      have i1 : ¬ (k : Int) < (k : Int) := by omega
      rw [List.take_of_length_le (by rw [HN.out]; exact Nat.le_refl _)] at hP
      have LN2 := Lib.hid (plen_c p mb _ wr hP)
      have HP := Lib.hid hP
      have hl2 := answerM_len l m
      clear hP
      generalize hm' : answerM m l = m' at *
      have HE := Lib.hid hm'
      clear hm'
      have hw : IntKind.i64.wrap ((m.length : Int) - (m'.length : Int)) = (m.length : Int) - (m'.length : Int) := IntWalk.i64_in _ (by omega)
      go_wp2_with fail
      refine LN2.out.mono ?_
      rintro e w1 ⟨rfl, rfl⟩
      go_wp2_with fail
      go_ret
      exact ⟨by rw [HE.out]; simp, by rw [HE.out]; exact HP.out, hT⟩

def stepSet (m : PM) (id : Int) : PM := kput m id (((kget m id).getD (0, false)).1, true)
def toldM (m : PM) (l : List Int) : PM := l.foldl stepSet m
/-- Step: who is open behind it, who is told, who failed. -/
def stepM (m : PM) (t : Int) : PM × List Int × List Int :=
  (toldM (answerM m (idsOf (failB t) m)) (idsOf (toldB t) (answerM m (idsOf (failB t) m))), idsOf (toldB t) (answerM m (idsOf (failB t) m)), idsOf (failB t) m)
theorem idsOf_mem {is : Int × Bool → Bool} {m : PM} {x : Int} : x ∈ idsOf is m ↔ ∃ a, (x, a) ∈ m ∧ is a = true := by
  unfold idsOf
  simp only [List.mem_map, List.mem_filter]
  constructor
  · rintro ⟨⟨y, a⟩, ⟨h1, h2⟩, rfl⟩; exact ⟨a, h1, h2⟩
  · rintro ⟨a, h1, h2⟩; exact ⟨(x, a), ⟨h1, h2⟩, rfl⟩
theorem idsOf_len (is : Int × Bool → Bool) (m : PM) : (idsOf is m).length ≤ m.length := by
  unfold idsOf
  rw [List.length_map]
  exact List.length_filter_le _ _

theorem kput_some {m : PM} {k : Int} {v : Int × Bool} (x : Int) (hx : (kget m x).isSome = true) : (kget (kput m k v) x).isSome = true := by
  cases h : kget (kput m k v) x with
  | some a => rfl
  | none =>
    rw [kget_none] at h
    cases hc : kget m x with
    | none => rw [hc] at hx; cases hx
    | some a =>
      have hm := kget_mem hc
      by_cases hxk : x = k
      · exact absurd hxk.symm (fun e => h (k, v) (mem_kput.2 (.inl rfl)) e)
      · exact absurd rfl (h (x, a) (mem_kput.2 (.inr ⟨hm, hxk⟩)))
theorem toldM_some (l : List Int) : ∀ (m : PM) (x : Int), (kget m x).isSome = true → (kget (toldM m l) x).isSome = true := by
  induction l with
  | nil => intro m x h; exact h
  | cons a r ih => intro m x h; exact ih _ x (kput_some x h)

theorem fieldP (s : Int) (b : Bool) (w : World) : (Instr.field 55 (.agg #[.int .i64 s, .bool b]) 0).run Try.prog w = .ok (.int .i64 s) w := by kernel_rfl

def StepPost (p : Nat) (mb : Option Nat) (V : PM × List Int × List Int) (w : World) (e : Ending) (w' : World) : Prop :=
  ∃ D n c E n2 c2, e = .returned (.tuple #[.slice D n c, .slice E n2 c2]) ∧ w'.ownsRow w.heap.size 3 1 (.slice D n c) n (i64s V.2.1) ∧ w'.ownsRow w.heap.size 3 1 (.slice E n2 c2) n2 (i64s V.2.2) ∧ PIs w' p mb V.1 ∧ Turn mb.toList w w'
theorem PIs.put {w : World} {p : Nat} {mb : Option Nat} {m : PM} (h : PIs w p mb m) {w' : World} {x : Int} {v : Int × Bool} (hb : Blk w' p 25 #[.map mb]) (hn : mb = none → kput m x v = []) (hm : ∀ b, mb = some b → ∃ es clock, w'.heap[b]? = some (.map es clock) ∧ MapIs Try.prog 3 es clock (kv pv (kput m x v)))
    (hl : (kput m x v).length ≤ 16) (hok : 1 ≤ x ∧ x ≤ 65535 ∧ 0 ≤ v.1 ∧ v.1 ≤ 1073741824) : PIs w' p mb (kput m x v) :=
  ⟨hb, hn, fun b hb => ⟨(h.map b hb).1, hm b hb⟩, hl, rises_kput h.rises, fun y hy => by rcases mem_kput.1 hy with rfl | ⟨hy, _⟩; exact hok; exact h.ok y hy⟩

set_option maxRecDepth 100000 in
set_option maxHeartbeats 1000000 in
theorem step_c (p : Nat) (mb : Option Nat) (m : PM) (t : Int) (w : World) (h : PIs w p mb m) (ht0 : 0 ≤ t) (ht1 : t ≤ 9223372036854775807) (hmb : ∀ b, mb = some b → b < w.heap.size) :
    Calls Try.prog 9 #[.pointer (some ⟨p, 0, none⟩), .int .i64 t] w (StepPost p mb (stepM m t) w) := by
  have hmf : ∀ (fn : Fn) (first cap : Array Value) (w : World), (Instr.makeFunc fn first cap).run Try.prog w = .ok (.func fn first cap) w := fun _ _ _ _ => rfl
  have h0 := Lib.hid h
  have hpl := h.blk.lt
  have TB := (Turn.refl [] w).alloc (.cells #[.int .i64 t] 3)
  have hcell : ∀ wz, Turn [] (w.alloc (.cells #[.int .i64 t] 3)) wz → wz.cell? ⟨w.heap.size, 0, none⟩ = some (.int .i64 t) ∧ w.heap.size < wz.heap.size := fun wz hz =>
    ⟨(hz.blk (Blk.new w 3 #[.int .i64 t]) (by simp)).cell 0, (hz.blk (Blk.new w 3 #[.int .i64 t]) (by simp)).lt⟩
  have SC := Lib.hid (such_p1 p mb m 20 (.pointer (some ⟨w.heap.size, 0, none⟩)) (failB t) _ (h.turn TB (by simp) (by simp)) enterS1 (fun wz hz s b => step1_c w.heap.size t s b wz ht0 ht1 (hcell wz hz).1 (hcell wz hz).2))
  clear h
  go_enter Try.func9, Try.ntmps9
  go_wp2_with fail
  refine SC.out.mono ?_
  rintro e w1 ⟨E, n2, c2, rfl, oE, hT1⟩
  have hP1 := h0.out.turn (TB.trans hT1) (by simp) (by simp)
  have T1 := TB.trans hT1
  have hz1 := T1.size
  have hEb : ∀ i ∈ blks E, w.heap.size + 1 ≤ i := fun i hi => by have := (own_ltA oE i hi).2; simp at this; omega
  have hEl : (idsOf (failB t) m).length = n2 := by have := oE.1; rw [i64s_len] at this; omega
  have hfl := idsOf_len (failB t) m
  have hml := h0.out.len
  have hfm : ∀ x ∈ idsOf (failB t) m, (Lit.int .i64 x).wf = true := fun x hx => by
    obtain ⟨a, ha, _⟩ := idsOf_mem.1 hx
    have := h0.out.ok _ ha
    simp [Lit.wf, IntKind.min, IntKind.max, IntKind.signed, IntKind.bits]
    omega
  have AC := Lib.hid (answer_c p mb m E n2 c2 (idsOf (failB t) m) w1 hP1 (Sl.of_own oE) hEl (by omega) (fun i hi => ⟨by have := hEb i hi; omega, fun hm => by have := hEb i hi; have := hmb i hm; omega⟩) hfm)
  have hv : Hid (stepM m t = (toldM (answerM m (idsOf (failB t) m)) (idsOf (toldB t) (answerM m (idsOf (failB t) m))), idsOf (toldB t) (answerM m (idsOf (failB t) m)), idsOf (failB t) m)) := rfl
  have hm1l := answerM_len (idsOf (failB t) m) m
  generalize idsOf (failB t) m = f at *
  generalize answerM m f = m1 at *
  generalize stepM m t = V at *
  clear hP1 hEl hfm
  go_wp2_with fail
  refine AC.out.mono ?_
  rintro e w2 ⟨rfl, hP2, hT2⟩
  have oE2 := own_turnA oE hT2 (fun i hi hm => by have := hEb i hi; have := hmb i (by simpa using hm); omega)
  have hz2 := hT2.size
  have cell2 : ∀ wz, Turn [] w2 wz → wz.cell? ⟨w.heap.size, 0, none⟩ = some (.int .i64 t) ∧ w.heap.size < wz.heap.size := fun wz hz => by
    have K1 := hT1.blk (Blk.new w 3 #[.int .i64 t]) (by simp)
    have K2 := hT2.blk K1 (fun hm => by have := hmb _ (by simpa using hm); omega)
    have K3 := hz.blk K2 (by simp)
    exact ⟨K3.cell 0, K3.lt⟩
  have SC2 := Lib.hid (such_p1 p mb m1 21 (.pointer (some ⟨w.heap.size, 0, none⟩)) (toldB t) w2 hP2 enterS2 (fun wz hz s b => step2_c w.heap.size t s b wz ht0 ht1 (cell2 wz hz).1 (cell2 wz hz).2))
  have HP2 := Lib.hid hP2
  have hgl := idsOf_len (toldB t) m1
  have hgm : ∀ x ∈ idsOf (toldB t) m1, 1 ≤ x ∧ x ≤ 65535 ∧ (kget m1 x).isSome = true := fun x hx => by
    obtain ⟨a, ha, _⟩ := idsOf_mem.1 hx
    have := hP2.ok _ ha
    refine ⟨this.1, this.2.1, ?_⟩
    rw [kget_of_mem hP2.rises ha]
    rfl
  generalize hgg : idsOf (toldB t) m1 = g at *
  have HG := Lib.hid hgg
  clear hP2 hgg
  go_wp2_with fail
  refine SC2.out.mono ?_
  rintro e w3 ⟨D, n, c, rfl, oD, hT3⟩
  rw [HG.out] at oD
  go_wp2_with fail
  have hP3 := HP2.out.turn hT3 (by simp) (by simp)
  have hDb : ∀ i ∈ blks D, w2.heap.size ≤ i := fun i hi => (own_ltA oD i hi).2
  have hDl : g.length = n := by have := oD.1; rw [i64s_len] at this; omega
  have HDL := Lib.hid hDl
  have hm16 := HP2.out.len
  have sD := Sl.of_own oD
  have offD : ∀ i ∈ blks D, i ∉ mb.toList := fun i hi hm => by have := hDb i hi; have := hmb i (by simpa using hm); omega
  have T3 : Turn mb.toList w w3 := ((T1.mono (by simp)).trans hT2).trans (hT3.mono (by simp))
  have oE3 := own_turnA oE2 hT3 (by simp)
  have hn16 : n ≤ 16 := by omega
  have hlow : w.heap.size ≤ w2.heap.size := by omega
  clear hDl hgl hT3 oE oE2
  go_loopw [21] (fun i wr => ∃ k : Nat, k ≤ n ∧ i = .int .i64 k ∧ PIs wr p mb (toldM m1 (g.take k)) ∧ Turn mb.toList w3 wr) (fun i _ => n - (intOf i).toNat)
  case atStart => exact ⟨0, Nat.zero_le _, rfl, hP3, Turn.refl _ _⟩
  case round =>
    obtain ⟨k, hk, rfl, hP, hT⟩ := hrel
    have i0 : (0 : Int) ≤ (k : Int) := Int.natCast_nonneg _
    by_cases hlt : k < n
    · have i1 : (k : Int) < (n : Int) := by omega
      have kx : k < g.length := by rw [HDL.out]; exact hlt
      obtain ⟨b1, o1, rfl, l1, q0⟩ := i64s_at (sD.turn hT (off_blks offD)) kx
      have hstep : Hid (toldM m1 (g.take (k + 1)) = stepSet (toldM m1 (g.take k)) g[k]) := by
        show List.foldl stepSet m1 (g.take (k + 1)) = stepSet (List.foldl stepSet m1 (g.take k)) g[k]
        rw [List.take_succ_eq_append_getElem kx, List.foldl_append]
        rfl
      obtain ⟨hx1, hx2, hx3⟩ := hgm g[k] (List.getElem_mem kx)
      have hkeep : (kget (toldM m1 (g.take k)) g[k]).isSome = true := toldM_some (g.take k) m1 g[k] hx3
      have hrs := hP.rises
      have hok := hP.ok
      have hle := hP.len
      generalize g[k] = x at *
      generalize toldM m1 (g.take k) = mk at *
      have wf : (Lit.int .i64 x).wf = true := by simp [Lit.wf, IntKind.min, IntKind.max, IntKind.signed, IntKind.bits]; omega
      cases mb with
      | none =>
        have := HP2.out.nil rfl
        rw [this] at hx3
        cases hx3
      | some b =>
        obtain ⟨hpb, es, clock, h2, h3⟩ := hP.map b rfl
        obtain ⟨⟨s, bb⟩, ha⟩ : ∃ a, kget mk x = some a := by cases hc : kget mk x with | none => rw [hc] at hkeep; cases hkeep | some a => exact ⟨a, rfl⟩
        have L := h3.look Try.underlying3 Try.underlying23 zeroPr wf wr.drew b h2
        rw [kget_kv, ha] at L
        simp only [Option.map_some, Option.getD_some, pv] at L
        have hset : Hid (stepSet mk x = kput mk x (s, true)) := by show _ = _; unfold stepSet; rw [ha]; rfl
        obtain ⟨es', clock', hM', U⟩ := h3.store Try.underlying3 Try.underlying23 (by rw [kv_length]; unfold maxLen; omega) wf (pv (s, true))
        rw [kput_kv] at hM'
        simp only [pv] at U
        have U1 := U wr.drew b h2
        have HM := Lib.hid hM'
        have H2 := Lib.hid h2
        have HP := Lib.hid hP
        have c0 := hP.blk.cell 0
        have hpl := hP.blk.lt
        have hlen2 := kput_length_old (v := (s, true)) hrs (show kget mk x ≠ none by rw [ha]; simp)
        have hsok := hok _ (kget_mem ha)
        have hFD := fieldP s bb
        clear hP h3 hM' U hkeep hx3
        go_wp2_with fail
        go_region_held3 (fun w' => w'.cell? ⟨p, 0, none⟩ = some (.map (some b)))
          (first | (simp [cell_setBlock, hpb, c0]; done) | go_keep) (fail)
        go_wp2_with fail
        go_roundw
        case rel =>
          refine ⟨k + 1, by omega, by go_num, ?_, (hT.drew).setBlock (.inl (by simp)) _⟩
          rw [hstep.out, hset.out]
          refine HP.out.put (get_setBlock (show Blk wr.drew p _ _ from HP.out.blk) hpb _) (by simp) (fun b' hb => by cases hb; exact ⟨es', clock', get_set (show wr.drew.heap[b]? = _ from H2.out) _, HM.out⟩) (by rw [hlen2]; exact hle) ⟨hx1, hx2, hsok.2.2.1, hsok.2.2.2⟩
        case measure => simp [intOf]; omega
    · obtain rfl : k = n := by omega
      have i1 : ¬ (k : Int) < (k : Int) := by omega
      rw [List.take_of_length_le (by rw [HDL.out]; exact Nat.le_refl _)] at hP
      go_wp2_with fail
      go_ret2
      refine ⟨D, k, c, E, n2, c2, by simp, ?_, ?_, by rw [hv.out]; exact hP, T3.trans hT⟩
      · rw [hv.out]; exact own_down (own_turnA oD hT offD) hlow
      · rw [hv.out]; exact own_down (own_turnA oE3 hT (fun i hi hm => by have := hEb i hi; have := hmb i (by simpa using hm); omega)) (by simp)
end Go.Proofs.Ythmpkpifeickpaa
