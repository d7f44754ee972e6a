/- Contract of (*Quotas).Left; the chapter's example. -/
import Derived.Test.YtpdencmgjihnfaaTake
namespace Go.Proofs.Ytpdencmgjihnfaa
open Go.RowKit Go.ChangeMaps

def qleft (m : List (Int × Int × Int)) (times s t : Int) : Int := if (qlook m s t).2 ≠ 0 then 0 else times - (qlook m s t).1.2

set_option maxRecDepth 100000 in
set_option maxHeartbeats 1000000 in
theorem left_c (q bm : Nat) (times : Int) (m : List (Int × Int × Int)) (s t : Int) (w : World) (hq : QIs w q bm times m) (h4 : t ≤ 9223372036854775807) :
    Calls Try.prog 36 #[.pointer (some ⟨q, 0, none⟩), .int .i64 s, .int .i64 t] w fun e w' => e = .returned (.int .i64 (qleft m times s t)) ∧ Turn [] w w' := by
  have hq0 := hq
  have TK := look_c q bm times m s t w hq h4
  have hN := Lib.hid (@qlook_n0 times m s t hq.ok)
  unfold qleft
  generalize hx : qlook m s t = x at *
  obtain ⟨⟨p, n⟩, bad⟩ := x
  simp only at *
  have TK' := Lib.hid TK
  clear TK
  obtain ⟨hb, hok0, hne, es, clock, hm, hM⟩ := hq0
  have ht := hok0.t0
  have ht' := hok0.t1
  have hn0 := hN.out.2.1
  have hn := hN.out.2.2
  have c0 := hb.cell 0
  have hbl := hb.lt
  clear hx hM hok0 hm
  have hwrap : IntKind.i64.wrap (times - n) = times - n := IntWalk.i64_in _ (by omega)
  have HW := Lib.hid hwrap
  clear hwrap
  by_cases hbad : bad = 0
  · rw [if_neg (by simp [hbad])]
    obtain rfl := hbad
    go_enter Try.func36, Try.ntmps36
    go_wp2_with (go_at_call 44; refine TK'.out.mono ?_; rintro e w1 ⟨rfl, hT⟩; obtain ⟨hc, hf⟩ := hT.cells; have hz := hT.size; have hbl1 := Nat.lt_of_lt_of_le hbl hz)
    have hwrap := HW.out
    go_quiet (fail)
    go_wp2_with fail
    go_ret
    exact ⟨by simp, (hT.alloc _).drewN _⟩
  · rw [if_pos hbad]
    have hbad' : (bad != 0) = true := by simpa using hbad
    have hbad'' : (bad == 0) = false := by simpa using hbad
    clear hbad
    go_enter Try.func36, Try.ntmps36
    go_wp2_with (go_at_call 44; refine TK'.out.mono ?_; rintro e w1 ⟨rfl, hT⟩; obtain ⟨hc, hf⟩ := hT.cells; have hz := hT.size)
    go_ret
    exact ⟨by simp, hT.alloc _⟩

end Go.Proofs.Ytpdencmgjihnfaa
