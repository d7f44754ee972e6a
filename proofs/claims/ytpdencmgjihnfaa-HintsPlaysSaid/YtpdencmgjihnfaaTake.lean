/- Contracts of (*Quotas).Take and (*Quotas).Left. -/
import Derived.Test.YtpdencmgjihnfaaQuota
import Derived.StillTailTactics
namespace Go.Proofs.Ytpdencmgjihnfaa
open Go.RowKit Go.ChangeMaps

abbrev QM := List (Int × Int × Int)

/-- Take: the error, and what is known behind it. -/
def qtake (m : List (Int × Int × Int)) (times s t : Int) : Int × List (Int × Int × Int) :=
  if (qlook m s t).2 ≠ 0 then ((qlook m s t).2, m) else
  if times ≤ (qlook m s t).1.2 then (15, m) else
  if kget m s = none ∧ m.length = 16 then (6, m) else
  (0, kput m s ((qlook m s t).1.1, (qlook m s t).1.2 + 1))

theorem qlook_range {m : List (Int × Int × Int)} {s t : Int} (h : (qlook m s t).2 = 0) : 1 ≤ s ∧ s ≤ 65535 ∧ 0 ≤ t := by
  unfold qlook at h
  split at h
  · simp at h
  · omega

theorem qlook_n0 {times : Int} {m : List (Int × Int × Int)} {s t : Int} (h : QOk times m) : 0 ≤ (qlook m s t).1.1 ∧ 0 ≤ (qlook m s t).1.2 ∧ (qlook m s t).1.2 ≤ times := by
  have ht0 := h.t0
  have hx : 0 ≤ ((kget m s).getD (0, 0)).1 ∧ 0 ≤ ((kget m s).getD (0, 0)).2 ∧ ((kget m s).getD (0, 0)).2 ≤ times := by
    cases hk : kget m s with
    | none => simp; omega
    | some x => have := h.ents _ (kget_mem hk); exact ⟨this.2.2.1, this.2.2.2.1, this.2.2.2.2⟩
  unfold qlook
  split
  · simp; omega
  · split
    · simp; omega
    · simp only [atP, atN]
      refine ⟨by omega, ?_⟩
      split
      · simp; omega
      · exact hx.2
theorem qtake_ok {times : Int} {m : List (Int × Int × Int)} {s t : Int} (h : QOk times m) : QOk times (qtake m times s t).2 := by
  unfold qtake
  split
  · exact h
  · rename_i h0
    split
    · exact h
    · rename_i h1
      split
      · exact h
      · rename_i h2
        have hr := qlook_range (m := m) (s := s) (t := t) (by simpa using h0)
        have hn := qlook_n0 (s := s) (t := t) h
        refine ⟨h.t0, h.t1, ?_, rises_kput h.rises, fun x hx => ?_⟩
        · cases hk : kget m s with
          | none =>
            have := kput_length_new (v := ((qlook m s t).1.1, (qlook m s t).1.2 + 1)) hk
            have := h.len
            simp [hk] at h2
            show (kput m s _).length ≤ 16
            omega
          | some y =>
            have := kput_length_old (k := s) (v := ((qlook m s t).1.1, (qlook m s t).1.2 + 1)) h.rises (by rw [hk]; simp)
            have := h.len
            show (kput m s _).length ≤ 16
            omega
        · rcases mem_kput.1 hx with rfl | ⟨hx, _⟩
          · exact ⟨hr.1, hr.2.1, hn.1, by show 0 ≤ (qlook m s t).1.2 + 1; omega, by show (qlook m s t).1.2 + 1 ≤ times; omega⟩
          · exact h.ents x hx

theorem take_end {w w1 : World} {q bm : Nat} {times : Int} {m' : List (Int × Int × Int)} {es es' : Array MapEntry} {clock clock' : Nat} {o o' : Obj} (hT : Turn [] w w1) (hb : Blk w q 84 #[.int .i64 times, .map (some bm)]) (hok : QOk times m') (hne : q ≠ bm)
    (hm : ((w1.alloc o).alloc o').heap[bm]? = some (.map es clock)) (hM : MapIs Try.prog 3 es' clock' (kv ent m')) (n : Nat) (e e' : Ending) (he : e = e') :
    e = e' ∧ QIs (setBlock (((w1.alloc o).alloc o').drewN n) bm (.map es' clock')) q bm times m' ∧ Turn [bm] w (setBlock (((w1.alloc o).alloc o').drewN n) bm (.map es' clock')) := by
  have hT' : Turn [bm] w (setBlock (((w1.alloc o).alloc o').drewN n) bm (.map es' clock')) := ((((hT.mono (S' := [bm]) (by simp)).alloc _).alloc _).drewN _).setBlock (.inl (by simp)) _
  exact ⟨he, ⟨hT'.blk hb (by simpa using hne), hok, hne, es', clock', get_set (get_drewN hm _) _, hM⟩, hT'⟩

set_option maxRecDepth 100000 in
set_option maxHeartbeats 1000000 in
theorem take_c (q bm : Nat) (times : Int) (m : List (Int × Int × Int)) (s t : Int) (w : World) (hq : QIs w q bm times m) (h4 : t ≤ 9223372036854775807) :
    Calls Try.prog 41 #[.pointer (some ⟨q, 0, none⟩), .int .i64 s, .int .i64 t] w fun e w' => e = .returned (.int .i64 (qtake m times s t).1) ∧ QIs w' q bm times (qtake m times s t).2 ∧ Turn [bm] w w' := by
  have hq0 := hq
  have LK := Lib.hid (fun W hW => look_c q bm times m s t W hW h4)
  have hR := Lib.hid (@qlook_range m s t)
  have hN := Lib.hid (@qlook_n0 times m s t hq.ok)
  have hOk := Lib.hid (@qtake_ok times m s t hq.ok)
  unfold qtake at hOk ⊢
  generalize hx : qlook m s t = x at *
  obtain ⟨⟨p, n⟩, bad⟩ := x
  simp only at *
  obtain ⟨hb, hok0, hne, es, clock, hm, hM⟩ := hq0
  have ht := hok0.t0
  have ht' := hok0.t1
  have hl := hok0.len
  clear hok0
  have c0 := hb.cell 0
  have c1 := hb.cell 1
  have hbl := hb.lt
  have hml := lt_of_some hm
  clear hx
  have TK : Calls Try.prog 44 #[.pointer (some ⟨q, 0, none⟩), .int .i64 s, .int .i64 t] w fun e w' => e = .returned (.tuple #[.agg #[.int .i64 p, .int .i64 n], .int .i64 bad]) ∧ Turn [] w w' := LK.out w hq
  have TK' := Lib.hid TK
  clear TK
  by_cases hbad : bad = 0
  · obtain ⟨r1, r2, r3⟩ := hR.out hbad
    rw [if_neg (by simp [hbad])] at hOk ⊢
    obtain rfl := hbad
    have wf : (Lit.int .i64 s).wf = true := by simp [Lit.wf, IntKind.min, IntKind.max, IntKind.signed, IntKind.bits]; omega
    have L := hM.look_ok Try.underlying3 Try.underlying82 zeroEnt wf
    rw [kget_kv] at L
    have N := hM.len Try.underlying82 3
    rw [kv_length] at N
    obtain ⟨es', clock', hM', U⟩ := hM.store Try.underlying3 Try.underlying82 (by rw [kv_length]; unfold maxLen; omega) wf (ent (p, n + 1))
    rw [kput_kv] at hM'
    simp only [ent] at U
    generalize hk : kget m s = k at *
    have hz0 : ∃ a b : Int, (k.map ent).getD (ent (0, 0)) = .agg #[.int .i64 a, .int .i64 b] := by cases k <;> exact ⟨_, _, rfl⟩
    obtain ⟨za, zb, hz0⟩ := hz0
    rw [hz0] at L
    have hks : (k.map ent).isSome = k.isSome := by cases k <;> rfl
    rw [hks] at L
    clear hz0 hks hk
    have HM := Lib.hid hM
    have HM' := Lib.hid hM'
    clear hM hM' wf
    by_cases hn : times ≤ n
    · rw [if_pos hn]
      go_enter Try.func41, Try.ntmps41
      go_wp2_with (go_at_call 44; refine TK'.out.mono ?_; rintro e w1 ⟨rfl, hT⟩; obtain ⟨hc, hf⟩ := hT.cells; have hz := hT.size; have hbl1 := Nat.lt_of_lt_of_le hbl hz; have hm1 := hT.obj hm (by simp); have hal := get_alloc hm1; have hal2 := fun o => get_alloc (hal o); have hal3 := fun o o' => get_drew (hal2 o o'))
      go_quiet (fail)
      go_wp2_with fail
      go_ret
      exact ⟨by simp, hq.turn (((hT.alloc _).alloc _).drewN _) (by simp) (by simp), (((hT.mono (by simp)).alloc _).alloc _).drewN _⟩
    · rw [if_neg hn] at hOk ⊢
      have hn0 := hN.out.2.1
      have hwrap : IntKind.i64.wrap (n + 1) = n + 1 := IntWalk.i64_in _ (by omega)
      have HW := Lib.hid hwrap
      clear hwrap
      by_cases hk : k = none
      · by_cases hl16 : m.length = 16
        · rw [if_pos ⟨hk, hl16⟩]
          obtain rfl := hk
          have hl16' : (m.length : Int) = 16 := by omega
          have hl16'' : ((m.length : Int) == 16) = true := by simpa using hl16'
          simp only [Option.isSome_none] at L
          go_enter Try.func41, Try.ntmps41
          go_wp2_with (go_at_call 44; refine TK'.out.mono ?_; rintro e w1 ⟨rfl, hT⟩; obtain ⟨hc, hf⟩ := hT.cells; have hz := hT.size; have hbl1 := Nat.lt_of_lt_of_le hbl hz; have hm1 := hT.obj hm (by simp); have hal := get_alloc hm1; have hal2 := fun o => get_alloc (hal o); have hal3 := fun o o' => get_drew (hal2 o o'))
          go_quiet (fail)
          go_wp2_with fail
          go_ret
          exact ⟨by simp, hq.turn (((hT.alloc _).alloc _).drewN _) (by simp) (by simp), (((hT.mono (by simp)).alloc _).alloc _).drewN _⟩
        · rw [if_neg (fun h => hl16 h.2)] at hOk ⊢
          obtain rfl := hk
          have hl16'' : ((m.length : Int) == 16) = false := by simp; omega
          simp only [Option.isSome_none] at L
          go_enter Try.func41, Try.ntmps41
          go_wp2_with (go_at_call 44; refine TK'.out.mono ?_; rintro e w1 ⟨rfl, hT⟩; obtain ⟨hc, hf⟩ := hT.cells; have hz := hT.size; have hbl1 := Nat.lt_of_lt_of_le hbl hz; have hm1 := hT.obj hm (by simp); have hal := get_alloc hm1; have hal2 := fun o => get_alloc (hal o); have hal3 := fun o o' => get_drew (hal2 o o'))
          go_quiet (fail)
          go_wp2_with fail
          have hwrap := HW.out
          have hne1 : w1.heap.size ≠ bm := Nat.ne_of_gt (Nat.lt_of_lt_of_le hml hz)
          go_region_held3 (fun w' => w'.cell? ⟨q, 1, none⟩ = some (.map (some bm)) ∧ w'.cell? ⟨w1.heap.size, 0, none⟩ = some (.int .i64 p) ∧ w'.cell? ⟨w1.heap.size, 1, none⟩ = some (.int .i64 n))
            (first | (simp [cell_setBlock, hne, hne1, hc, hbl, hbl1, c1, World.cell?_alloc_past, Nat.lt_succ_of_lt]; done) | go_keep) (fail)
          go_wp2_with fail
          go_ret
          exact take_end hT hb hOk.out hne (hal2 _ _) HM'.out _ _ _ rfl
      · rw [if_neg (fun h => hk h.1)] at hOk ⊢
        have hks : k.isSome = true := by cases k <;> simp_all
        rw [hks] at L
        clear hks hk
        go_enter Try.func41, Try.ntmps41
        go_wp2_with (go_at_call 44; refine TK'.out.mono ?_; rintro e w1 ⟨rfl, hT⟩; obtain ⟨hc, hf⟩ := hT.cells; have hz := hT.size; have hbl1 := Nat.lt_of_lt_of_le hbl hz; have hm1 := hT.obj hm (by simp); have hal := get_alloc hm1; have hal2 := fun o => get_alloc (hal o); have hal3 := fun o o' => get_drew (hal2 o o'))
        go_quiet (fail)
        go_wp2_with fail
        have hwrap := HW.out
        have hne1 : w1.heap.size ≠ bm := Nat.ne_of_gt (Nat.lt_of_lt_of_le hml hz)
        go_region_held3 (fun w' => w'.cell? ⟨q, 1, none⟩ = some (.map (some bm)) ∧ w'.cell? ⟨w1.heap.size, 0, none⟩ = some (.int .i64 p) ∧ w'.cell? ⟨w1.heap.size, 1, none⟩ = some (.int .i64 n))
          (first | (simp [cell_setBlock, hne, hne1, hc, hbl, hbl1, c1, World.cell?_alloc_past, Nat.lt_succ_of_lt]; done) | go_keep) (fail)
        go_wp2_with fail
        go_ret
        exact take_end hT hb hOk.out hne (hal2 _ _) HM'.out _ _ _ rfl
  · rw [if_pos hbad]
    have hbad' : (bad != 0) = true := by simpa using hbad
    have hbad'' : (bad == 0) = false := by simpa using hbad
    have HM := Lib.hid hM
    clear hM hbad
    go_enter Try.func41, Try.ntmps41
    go_wp2_with (go_at_call 44; refine TK'.out.mono ?_; rintro e w1 ⟨rfl, hT⟩; obtain ⟨hc, hf⟩ := hT.cells; have hz := hT.size)
    go_ret
    exact ⟨by simp, hq.turn (hT.alloc _) (by simp) (by simp), (hT.mono (by simp)).alloc _⟩
end Go.Proofs.Ytpdencmgjihnfaa
