/- A view's Drop. -/
import Derived.Test.YtelagneielahhaaVwLog
namespace Go.Proofs.Ytelagneielahhaa
open Go.RowKit Go.ChangeMaps Go.MapKept

/-- What is left behind a drop of identities. -/
def dropM (m : VM) (l : List Int) : VM := l.foldl kdel m
theorem dropM_eq (m : VM) : ∀ l : List Int, dropM m l = m.filter (fun q => decide (q.1 ∉ l))
  | [] => (List.filter_eq_self.2 (by simp)).symm
  | k :: l => by
    have ih := dropM_eq (kdel m k) l
    unfold dropM at ih ⊢
    rw [List.foldl_cons, ih, kdel, List.filter_filter]
    apply List.filter_congr
    intro q _
    by_cases h1 : q.1 = k <;> by_cases h2 : q.1 ∈ l <;> simp [h1, h2]
theorem dropM_len (m : VM) (l : List Int) : (dropM m l).length ≤ m.length := by
  rw [dropM_eq]
  exact List.length_filter_le _ _
/-- What a view's entries are. -/
structure VOk (m : VM) : Prop where
  key : ∀ p ∈ m, p.2.c.1 = p.1
  right : ∀ p ∈ m, Right p.2.c
theorem wf_small {x : Int} (h0 : 0 ≤ x) (h1 : x ≤ 9223372036854775807) : (Lit.int .i64 x).wf = true := by
  simp [Lit.wf, IntKind.min, IntKind.max, IntKind.signed, IntKind.bits]
  omega
theorem Right.wf {c : C4} (h : Right c) : (Lit.int .i64 c.1).wf = true := wf_small (by have := h.1.1; omega) (by have := h.1.2; omega)
theorem VOk.wf {m : VM} (h : VOk m) : ∀ p ∈ m, (Lit.int .i64 p.1).wf = true := fun p hp => by
  rw [← h.key p hp]
  exact (h.right p hp).wf
theorem VOk.nil : VOk [] := ⟨by simp, by simp⟩
theorem VOk.sub {m m' : VM} (h : VOk m) (hs : ∀ p ∈ m', p ∈ m) : VOk m' := ⟨fun p hp => h.key p (hs p hp), fun p hp => h.right p (hs p hp)⟩
theorem VOk.put {m : VM} (h : VOk m) {k : Int} {e : En} (hk : e.c.1 = k) (hr : Right e.c) : VOk (kput m k e) := by
  constructor
  · intro p hp
    rcases mem_kput.1 hp with rfl | ⟨h1, -⟩
    · exact hk
    · exact h.key p h1
  · intro p hp
    rcases mem_kput.1 hp with rfl | ⟨h1, -⟩
    · exact hr
    · exact h.right p h1

theorem VIs.del {w : World} {v mb : Nat} {own : C4} {m : VM} (h : VIs w v mb own m) {id : Int} (hid : (Lit.int .i64 id).wf = true) :
    ∃ w', (Builtin.delete_ #[76, 3] 0 #[.map (some mb), .int .i64 id]).run Try.prog w = .ok (.tuple #[]) w' ∧ VIs w' v mb own (kdel m id) ∧ Turn [mb] w w' := by
  obtain ⟨es, clock, hm, hM⟩ := h.map
  obtain ⟨es', h1, h2⟩ := hM.drop Try.underlying3 Try.underlying76 hid 0
  rw [kdel_kv] at h1
  have T : Turn [mb] w (setBlock w mb (.map es' clock)) := (Turn.refl [mb] w).setBlock (.inl (by simp)) _
  refine ⟨_, h2 w mb hm, ⟨T.blk h.blk (by simpa using h.ne), ⟨es', clock, get_set hm _, h1⟩, ?_, h.ne⟩, T⟩
  have := List.length_filter_le (fun p : Int × En => p.1 != id) m
  have := h.le
  unfold kdel
  omega
set_option maxRecDepth 100000 in
set_option maxHeartbeats 1000000 in
theorem dropV_c {w : World} {v mb : Nat} {own : C4} {m : VM} (h : VIs w v mb own m) (A : Option Addr) (n c : Nat) (l : List Int) (hx : Sl w A (i64s l)) (hn : l.length = n) (hl : n ≤ 1000000) (hoff : l ≠ [] → ∀ i ∈ blks A, i ≠ mb) (hwf : ∀ x ∈ l, (Lit.int .i64 x).wf = true) :
    Calls Try.prog 17 #[.pointer (some ⟨v, 0, none⟩), .slice A n c] w fun e w' => e = .returned (.int .i64 ((m.length : Int) - (dropM m l).length)) ∧ VIs w' v mb own (dropM m l) ∧ Turn [mb] w w' := by
  have HN := Lib.hid hn
  have LN := Lib.hid (lenV_c h)
  have h0 := Lib.hid h
  have hml := h.le
  have hne := h.ne
  have HX : Hid (∀ wz, Turn [mb] w wz → Sl wz A (i64s l)) := fun wz hT => by
    by_cases he : l = []
    · subst he; exact Sl.nil _ _
    · exact hx.turn hT (off_blks (fun i hi hm => hoff he i hi (by simpa using hm)))
  clear hn h hx hoff
  go_enter Try.func17, Try.ntmps17
  go_wp2_with fail
  refine LN.out.mono ?_
  rintro e w1 ⟨rfl, rfl⟩
  go_wp2_with fail
  go_loopw [12] (fun i wr => ∃ k : Nat, k ≤ n ∧ i = .int .i64 k ∧ VIs wr v mb own (dropM m (l.take k)) ∧ Turn [mb] w wr) (fun i _ => n - (intOf i).toNat)
  case atStart => exact ⟨0, Nat.zero_le _, rfl, h0.out, Turn.refl _ _⟩
  case round =>
    obtain ⟨k, hk, rfl, hP, hT⟩ := hrel
    have i0 : (0 : Int) ≤ (k : Int) := Int.natCast_nonneg _
    by_cases hlt : k < n
    · have i1 : (k : Int) < (n : Int) := by omega
      have kx : k < l.length := by rw [HN.out]; exact hlt
      obtain ⟨b1, o1, rfl, l1, q0⟩ := i64s_at (HX.out wr hT) kx
      have hstep : Hid (dropM m (l.take (k + 1)) = kdel (dropM m (l.take k)) l[k]) := by
        show List.foldl kdel m (l.take (k + 1)) = kdel (List.foldl kdel m (l.take k)) l[k]
        rw [List.take_succ_eq_append_getElem kx, List.foldl_append]
        rfl
      have wf := hwf l[k] (List.getElem_mem kx)
      obtain ⟨-, -, -, -, c4⟩ := hP.cells
      have hpl := hP.lts.1
      generalize l[k] = x at *
      obtain ⟨w2, DL, V2, T2⟩ := hP.del wf
      have HV2 := Lib.hid V2
      have HT2 := Lib.hid T2
      clear hP V2 T2
      go_wp2_with fail
      go_roundw
      case rel => exact ⟨k + 1, by omega, by go_num, by rw [hstep.out]; exact HV2.out, hT.trans HT2.out⟩
      case measure => simp [intOf]; omega
    · obtain rfl : k = n := by omega
      have i1 : ¬ (k : Int) < (k : Int) := by omega
      rw [List.take_of_length_le (by rw [HN.out]; exact Nat.le_refl _)] at hP
      have LN2 := Lib.hid (lenV_c hP)
      have HP := Lib.hid hP
      have hdl := dropM_len m l
      clear hP
      generalize hm' : dropM m l = m2 at *
      have HE := Lib.hid hm'
      clear hm'
      have hw : IntKind.i64.wrap ((m.length : Int) - (m2.length : Int)) = (m.length : Int) - (m2.length : Int) := IntWalk.i64_in _ (by omega)
      go_wp2_with fail
      refine LN2.out.mono ?_
      rintro e w2 ⟨rfl, rfl⟩
      go_wp2_with fail
      go_ret
      exact ⟨by rw [HE.out]; simp, by rw [HE.out]; exact HP.out, hT⟩
theorem dropNilV (A : Option Addr) (n c : Nat) (l : List Int) (w : World) (hx : Sl w A (i64s l)) (hn : l.length = n) (hl : n ≤ 1000000) :
    Calls Try.prog 17 #[.pointer none, .slice A n c] w fun e w' => e = .returned (.int .i64 0) ∧ Turn [] w w' := by
  have HN := Lib.hid hn
  have LN : ∀ wz, Calls Try.prog 21 #[.pointer none] wz fun e w' => e = .returned (.int .i64 0) ∧ wz = w' := fun wz => by
    go_enter Try.func21, Try.ntmps21
    go_wp2_with fail
    go_ret
    exact ⟨by simp, rfl⟩
  have LN' := Lib.hid LN
  clear LN hn
  go_enter Try.func17, Try.ntmps17
  go_wp2_with fail
  refine (LN'.out _).mono ?_
  rintro e w1 ⟨rfl, rfl⟩
  go_wp2_with fail
  go_loopw [12] (fun i wr => ∃ k : Nat, k ≤ n ∧ i = .int .i64 k ∧ Turn [] w wr) (fun i _ => n - (intOf i).toNat)
  case atStart => exact ⟨0, Nat.zero_le _, rfl, Turn.refl _ _⟩
  case round =>
    obtain ⟨k, hk, rfl, hT⟩ := hrel
    have i0 : (0 : Int) ≤ (k : Int) := Int.natCast_nonneg _
    by_cases hlt : k < n
    · have i1 : (k : Int) < (n : Int) := by omega
      have kx : k < l.length := by rw [HN.out]; exact hlt
      obtain ⟨b1, o1, rfl, l1, q0⟩ := i64s_at (hx.turn0 hT) kx
      generalize l[k] = x at *
      go_wp2_with fail
      go_roundw
      case rel => exact ⟨k + 1, by omega, by go_num, hT⟩
      case measure => simp [intOf]; omega
    · have i1 : ¬ (k : Int) < (n : Int) := by omega
      go_wp2_with fail
      refine (LN'.out _).mono ?_
      rintro e w2 ⟨rfl, rfl⟩
      go_wp2_with fail
      go_ret
      exact ⟨by simp, hT⟩
end Go.Proofs.Ytelagneielahhaa
