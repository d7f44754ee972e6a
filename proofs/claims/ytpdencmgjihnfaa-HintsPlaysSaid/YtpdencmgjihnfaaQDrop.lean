/- The contract of (*Quotas).Drop. -/
import Derived.Test.YtpdencmgjihnfaaTake
import Derived.Test.YtpdencmgjihnfaaOwn
import Derived.Test.YtpdencmgjihnfaaI64
namespace Go.Proofs.Ytpdencmgjihnfaa
open Go.RowKit Go.ChangeMaps Go.MapKept

def qdel (m : List (Int × Int × Int)) (l : List Int) : List (Int × Int × Int) := l.foldl kdel m
theorem qdel_len (l : List Int) : ∀ m : List (Int × Int × Int), (qdel m l).length ≤ m.length := by
  induction l with
  | nil => intro m; exact Nat.le_refl _
  | cons a r ih => intro m; exact Nat.le_trans (ih (kdel m a)) (List.length_filter_le _ _)
theorem QOk.del {times : Int} {m : List (Int × Int × Int)} (h : QOk times m) (k : Int) : QOk times (kdel m k) :=
  ⟨h.t0, h.t1, Nat.le_trans (List.length_filter_le _ _) h.len, rises_kdel h.rises, fun x hx => h.ents x (mem_kdel.1 hx).1⟩
set_option maxRecDepth 100000 in
set_option maxHeartbeats 1000000 in
theorem qdrop_c (q bm : Nat) (times : Int) (m : List (Int × Int × Int)) (A : Option Addr) (n c : Nat) (l : List Int) (w : World) (h : QIs w q bm times m) (hx : Sl w A (i64s l)) (hn : l.length = n) (hl : n ≤ 1000000) (hoff : bm ∉ blks A) (hwf : ∀ x ∈ l, (Lit.int .i64 x).wf = true) :
    Calls Try.prog 35 #[.pointer (some ⟨q, 0, none⟩), .slice A n c] w fun e w' => e = .returned (.int .i64 ((m.length : Int) - (qdel m l).length)) ∧ QIs w' q bm times (qdel m l) ∧ Turn [bm] w w' := by
  have HN := Lib.hid hn
  have h0 := Lib.hid h
  have hml := h.ok.len
  obtain ⟨hb, hok, hne, es, clock, h2, h3⟩ := h
  have c1 := hb.cell 1
  have hlq := hb.lt
  have hlb := lt_of_some h2
  have N := h3.len Try.underlying82 3
  rw [kv_length] at N
  have N1 := N w bm h2
  clear hb hok h3 N hn
  go_enter Try.func35, Try.ntmps35
  go_wp2_with fail
  go_loopw [17] (fun i wr => ∃ k : Nat, k ≤ n ∧ i = .int .i64 k ∧ QIs wr q bm times (qdel m (l.take k)) ∧ Turn [bm] w wr) (fun i _ => n - (intOf i).toNat)
  case atStart => exact ⟨0, Nat.zero_le _, rfl, h0.out, Turn.refl _ _⟩
  case round =>
    obtain ⟨k, hk, rfl, hP, hT⟩ := hrel
    have i0 : (0 : Int) ≤ (k : Int) := Int.natCast_nonneg _
    by_cases hlt : k < n
    · have i1 : (k : Int) < (n : Int) := by omega
      have kx : k < l.length := by rw [HN.out]; exact hlt
      have hxr := hx.turn hT (off_blks (fun i hi hm => hoff (by simp at hm; rw [← hm]; exact hi)))
      obtain ⟨b1, o1, rfl, l1, q0⟩ := i64s_at hxr kx
      have hstep : Hid (qdel m (l.take (k + 1)) = kdel (qdel m (l.take k)) l[k]) := by
        show List.foldl kdel m (l.take (k + 1)) = kdel (List.foldl kdel m (l.take k)) l[k]
        rw [List.take_succ_eq_append_getElem kx, List.foldl_append]
        rfl
      have wf := hwf l[k] (List.getElem_mem kx)
      have c1 := hP.blk.cell 1
      have hpl := hP.blk.lt
      have HP := Lib.hid hP
      obtain ⟨hb, hok, hne, es, clock, h2, h3⟩ := hP
      clear hxr
      generalize l[k] = x at *
      generalize qdel m (l.take k) = mk at *
      obtain ⟨es', hM', U⟩ := h3.drop Try.underlying3 Try.underlying82 wf 0
      rw [kdel_kv] at hM'
      have U1 := U wr bm h2
      have HM := Lib.hid hM'
      have H2 := Lib.hid h2
      clear h3 hM' U hok hb
      go_wp2_with fail
      go_roundw
      case rel =>
        refine ⟨k + 1, by omega, by go_num, ?_, hT.setBlock (.inl (by simp)) _⟩
        rw [hstep.out]
        exact ⟨get_setBlock HP.out.blk hne _, HP.out.ok.del x, hne, es', clock, get_set H2.out _, HM.out⟩
      case measure => simp [intOf]; omega
    · obtain rfl : k = n := by omega
      have i1 : ¬ (k : Int) < (k : Int) := by omega
      rw [List.take_of_length_le (by rw [HN.out]; exact Nat.le_refl _)] at hP
      have HP := Lib.hid hP
      have hl2 := qdel_len l m
      obtain ⟨hb, hok, hne, es, clock, h2, h3⟩ := hP
      have c1 := hb.cell 1
      have hlq := hb.lt
      have hlb := lt_of_some h2
      have N := h3.len Try.underlying82 3
      rw [kv_length] at N
      have N1 := N wr bm h2
      clear hb hok h3 N
      generalize hm' : qdel m l = m' at *
      have HE := Lib.hid hm'
      clear hm'
      have hw : IntKind.i64.wrap ((m.length : Int) - (m'.length : Int)) = (m.length : Int) - (m'.length : Int) := IntWalk.i64_in _ (by omega)
      go_wp2_with fail
      go_ret
      exact ⟨by rw [HE.out]; simp, by rw [HE.out]; exact HP.out, hT⟩
end Go.Proofs.Ytpdencmgjihnfaa
