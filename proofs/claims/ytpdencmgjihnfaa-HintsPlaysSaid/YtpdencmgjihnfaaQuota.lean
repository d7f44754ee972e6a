/- Contracts of package quota. -/
import Derived.Test.YtpdencmgjihnfaaChecked
import Derived.Test.YtpdencmgjihnfaaKeys
import Derived.Deep.RegionHeld3
import Derived.Deep.QuietTactic
import Derived.BigQuiet
import Derived.Outline
import Derived.KernelRfl
namespace Go.Proofs.Ytpdencmgjihnfaa
open Go.RowKit Go.ChangeMaps Go.MapKept

def ent (x : Int × Int) : Value := .agg #[.int .i64 x.1, .int .i64 x.2]
theorem zeroEnt (w : World) : (zeroValue 91).run Try.prog w = .ok (ent (0, 0)) w := by kernel_rfl

/-- What a Quotas knows is as it may be. -/
structure QOk (times : Int) (m : List (Int × Int × Int)) : Prop where
  t0 : 1 ≤ times
  t1 : times ≤ 255
  len : m.length ≤ 16
  rises : Rises m
  ents : ∀ x ∈ m, 1 ≤ x.1 ∧ x.1 ≤ 65535 ∧ 0 ≤ x.2.1 ∧ 0 ≤ x.2.2 ∧ x.2.2 ≤ times
/-- Block q is a Quotas of so many times a period, whose map, block bm, reads as m. -/
structure QIs (w : World) (q bm : Nat) (times : Int) (m : List (Int × Int × Int)) : Prop where
  blk : Blk w q 84 #[.int .i64 times, .map (some bm)]
  ok : QOk times m
  ne : q ≠ bm
  map : ∃ es clock, w.heap[bm]? = some (.map es clock) ∧ MapIs Try.prog 3 es clock (kv ent m)
theorem QIs.turn {w w' : World} {q bm : Nat} {times : Int} {m : List (Int × Int × Int)} {S : List Nat} (h : QIs w q bm times m) (hT : Turn S w w') (hq : q ∉ S) (hb : bm ∉ S) : QIs w' q bm times m := by
  obtain ⟨h1, h0, hne, es, clock, h2, h3⟩ := h
  exact ⟨hT.blk h1 hq, h0, hne, es, clock, hT.obj h2 hb, h3⟩
theorem QIs.lt {w : World} {q bm : Nat} {times : Int} {m : List (Int × Int × Int)} (h : QIs w q bm times m) : q < w.heap.size ∧ bm < w.heap.size := by
  obtain ⟨h1, h0, hne, es, clock, h2, h3⟩ := h
  exact ⟨h1.lt, lt_of_some h2⟩

/-- What an entry is in a period. -/
def atP (p period : Int) : Int := max p period
def atN (p n period : Int) : Int := if p < period then 0 else n
def qlook (m : List (Int × Int × Int)) (s t : Int) : (Int × Int) × Int :=
  if s < 1 ∨ 65535 < s ∨ t < 0 then ((0, 0), 10) else
  if t / 32 < ((kget m s).getD (0, 0)).1 then ((0, 0), 9) else
  ((atP ((kget m s).getD (0, 0)).1 (t / 32), atN ((kget m s).getD (0, 0)).1 ((kget m s).getD (0, 0)).2 (t / 32)), 0)

set_option maxHeartbeats 400000 in
theorem new_ok (t : Int) (w : World) (h1 : 1 ≤ t) (h2 : t ≤ 255) :
    Calls Try.prog 26 #[.int .i64 t] w fun e w' => e = .returned (.tuple #[.pointer (some ⟨w.heap.size+1, 0, none⟩), .int .i64 0]) ∧
      w' = (w.alloc (.map #[] 0)).alloc (.cells #[.int .i64 t, .map (some w.heap.size)] 84) := by
  have hmm := @run_makeMap Try.prog
  go_enter Try.func26, Try.ntmps26
  go_wp2_with fail
  go_ret2
  exact ⟨by simp, rfl⟩
theorem new_c (t : Int) (w : World) (h1 : 1 ≤ t) (h2 : t ≤ 255) :
    Calls Try.prog 26 #[.int .i64 t] w fun e w' => e = .returned (.tuple #[.pointer (some ⟨w.heap.size+1, 0, none⟩), .int .i64 0]) ∧ QIs w' (w.heap.size + 1) w.heap.size t [] ∧ Turn [] w w' := by
  refine (new_ok t w h1 h2).mono ?_
  rintro e w' ⟨rfl, rfl⟩
  refine ⟨rfl, ⟨?_, ⟨h1, h2, by simp, List.Pairwise.nil, by simp⟩, by omega, #[], 0, ?_, MapIs.empty _ _⟩, ((Turn.refl _ _).alloc _).alloc _⟩
  · have := Blk.new (w.alloc (.map #[] 0)) 84 #[.int .i64 t, .map (some w.heap.size)]
    simpa using this
  · exact get_alloc (heap_alloc w _).1 _
theorem new_e (t : Int) (w : World) (h1 : 1 ≤ t) (h2 : t ≤ 255) :
    Calls Try.prog 26 #[.int .i64 t] w fun e w' => ∃ q b : Nat, e = .returned (.tuple #[.pointer (some ⟨q, 0, none⟩), .int .i64 0]) ∧ QIs w' q b t [] ∧ w.heap.size ≤ q ∧ w.heap.size ≤ b ∧ Turn [] w w' :=
  (new_c t w h1 h2).mono fun _ _ ⟨he, hq, hT⟩ => ⟨_, _, he, hq, by omega, by omega, hT⟩
set_option maxHeartbeats 400000 in
theorem new_no (t : Int) (w : World) (h : t < 1 ∨ 255 < t) :
    Calls Try.prog 26 #[.int .i64 t] w fun e w' => e = .returned (.tuple #[.pointer none, .int .i64 10]) ∧ w = w' := by
  have hmm := @run_makeMap Try.prog
  rcases h with h | h
  · go_enter Try.func26, Try.ntmps26
    go_wp2_with fail
    go_ret2
    exact ⟨by simp, rfl⟩
  · have h' : ¬ t < 1 := by omega
    go_enter Try.func26, Try.ntmps26
    go_wp2_with fail
    go_ret2
    exact ⟨by simp, rfl⟩

set_option maxHeartbeats 400000 in
theorem at_c (p n period : Int) (w : World) :
    Calls Try.prog 46 #[.agg #[.int .i64 p, .int .i64 n], .int .i64 period] w fun e w' => e = .returned (.agg #[.int .i64 (atP p period), .int .i64 (atN p n period)]) ∧
      Turn [] w w' := by
  by_cases h : p < period
  all_goals
    go_enter Try.func46, Try.ntmps46
    go_wp2_with fail
    refine bodyPost_ret (v := _) (by simp [results, Try.results46, go_sem]; rfl) rfl ?_
    refine ⟨?_, ((Turn.refl _ _).alloc _).alloc _⟩
    simp [atP, atN]
    omega

set_option maxHeartbeats 400000 in
theorem period_c (tick : Int) (w : World) (h0 : 0 ≤ tick) (h1 : tick ≤ 9223372036854775807) :
    Calls Try.prog 45 #[.int .i64 tick] w fun e w' => e = .returned (.int .i64 (tick / 32)) ∧ w = w' := by
  go_enter Try.func45, Try.ntmps45
  go_wp2_with fail
  go_ret
  simp
theorem period_neg (tick : Int) (w : World) (h0 : tick < 0) :
    Calls Try.prog 45 #[.int .i64 tick] w fun e w' => e = .returned (.int .i64 0) ∧ w = w' := by
  go_enter Try.func45, Try.ntmps45
  go_wp2_with fail
  go_ret
  simp

set_option maxHeartbeats 400000 in
theorem look_ok (q bm : Nat) (times : Int) (m : List (Int × Int × Int)) (s t : Int) (w : World) (hq : QIs w q bm times m) (h1 : 1 ≤ s) (h2 : s ≤ 65535) (h3 : 0 ≤ t) (h4 : t ≤ 9223372036854775807) :
    Calls Try.prog 44 #[.pointer (some ⟨q, 0, none⟩), .int .i64 s, .int .i64 t] w fun e w' => e = .returned (.tuple #[ent (qlook m s t).1, .int .i64 (qlook m s t).2]) ∧ Turn [] w w' := by
  obtain ⟨hb, _, _, es, clock, hm, hM⟩ := hq
  have c1 := hb.cell 1
  have L := hM.look Try.underlying3 Try.underlying82 zeroEnt (key := s) (by simp [Lit.wf, IntKind.min, IntKind.max, IntKind.signed, IntKind.bits]; omega)
  rw [kget_kv] at L
  generalize hx : (kget m s).getD (0, 0) = x at *
  have ex : ((kget m s).map ent).getD (ent (0, 0)) = ent x := by rw [← hx]; cases kget m s <;> rfl
  rw [ex] at L
  clear hM ex
  have hbl := hb.lt
  have hml := lt_of_some hm
  have HX := Lib.hid hx
  clear hx
  obtain ⟨p, n⟩ := x
  simp only [ent] at L
  by_cases hp : t / 32 < p
  · have hv : Hid (qlook m s t = ((0, 0), 9)) := by
      show qlook m s t = _
      simp only [qlook, HX.out]
      rw [if_neg (by omega), if_pos hp]
    go_enter Try.func44, Try.ntmps44
    go_wp2_with fail
    go_region_held3 (fun w' => w'.cell? ⟨q, 1, none⟩ = some (.map (some bm)) ∧ w'.heap[bm]? = some (.map es clock))
      (first | exact ⟨by go_keep, by repeat (first | assumption | apply get_alloc | apply get_drew)⟩)
      (first | (go_at_call 45; refine (period_c t _ h3 h4).mono ?_; rintro e w' ⟨rfl, rfl⟩))
    all_goals
      go_wp2_with fail
      refine bodyPost_ret (v := .tuple #[.agg #[.int .i64 0, .int .i64 0], .int .i64 9]) (by simp [results, Try.results44, go_sem]) rfl ⟨by rw [hv.out]; rfl, ?_⟩
      exact (((Turn.refl _ _).alloc _).alloc _).drew
  · have hv : Hid (qlook m s t = ((atP p (t / 32), atN p n (t / 32)), 0)) := by
      show qlook m s t = _
      simp only [qlook, HX.out]
      rw [if_neg (by omega), if_neg hp]
    go_enter Try.func44, Try.ntmps44
    go_wp2_with fail
    go_region_held3 (fun w' => w'.cell? ⟨q, 1, none⟩ = some (.map (some bm)) ∧ w'.heap[bm]? = some (.map es clock))
      (first | exact ⟨by go_keep, by repeat (first | assumption | apply get_alloc | apply get_drew)⟩)
      (first | (go_at_call 45; refine (period_c t _ h3 h4).mono ?_; rintro e w' ⟨rfl, rfl⟩))
    all_goals
      go_wp2_with (go_at_call 46; refine (at_c p n _ _).mono ?_; rintro e w1 ⟨rfl, hT⟩; obtain ⟨hc, hf⟩ := hT.cells; have hz := hT.size)
      obtain ⟨r0, r1⟩ := (hT.blk (((Blk.new w 91 #[.int .i64 0, .int .i64 0]).alloc _)) (by simp)).cells2 (.int .i64 (atP p (t / 32))) (.int .i64 (atN p n (t / 32)))
      refine bodyPost_ret (v := .tuple #[.agg #[.int .i64 (atP p (t / 32)), .int .i64 (atN p n (t / 32))], .int .i64 0]) (by simp [results, Try.results44, go_sem, r0, r1]) rfl ⟨by rw [hv.out]; rfl, ?_⟩
      exact ((((((Turn.refl _ _).alloc _).alloc _).drew).trans hT).setCell (p := ⟨w.heap.size, 0, none⟩) (.inr (Nat.le_refl _)) _).setCell (p := ⟨w.heap.size, 1, none⟩) (.inr (Nat.le_refl _)) _

theorem look_no (q : Nat) (s t : Int) (m : List (Int × Int × Int)) (w : World) (h : s < 1 ∨ 65535 < s ∨ t < 0) :
    Calls Try.prog 44 #[.pointer (some ⟨q, 0, none⟩), .int .i64 s, .int .i64 t] w fun e w' => e = .returned (.tuple #[ent (qlook m s t).1, .int .i64 (qlook m s t).2]) ∧ Turn [] w w' := by
  have hv : Hid (qlook m s t = ((0, 0), 10)) := by
    show qlook m s t = _
    rw [qlook, if_pos h]
  by_cases h1 : s < 1
  · clear h
    go_enter Try.func44, Try.ntmps44
    go_wp2_with fail
    refine bodyPost_ret (v := .tuple #[.agg #[.int .i64 0, .int .i64 0], .int .i64 10]) (by simp [results, Try.results44, go_sem]) rfl ⟨by rw [hv.out]; rfl, ?_⟩
    exact (Turn.refl _ _).alloc _
  · by_cases h2 : 65535 < s
    · clear h
      go_enter Try.func44, Try.ntmps44
      go_wp2_with fail
      refine bodyPost_ret (v := .tuple #[.agg #[.int .i64 0, .int .i64 0], .int .i64 10]) (by simp [results, Try.results44, go_sem]) rfl ⟨by rw [hv.out]; rfl, ?_⟩
      exact (Turn.refl _ _).alloc _
    · have h3 : t < 0 := by omega
      clear h
      go_enter Try.func44, Try.ntmps44
      go_wp2_with fail
      refine bodyPost_ret (v := .tuple #[.agg #[.int .i64 0, .int .i64 0], .int .i64 10]) (by simp [results, Try.results44, go_sem]) rfl ⟨by rw [hv.out]; rfl, ?_⟩
      exact (Turn.refl _ _).alloc _

theorem look_nil (s t : Int) (w : World) :
    Calls Try.prog 44 #[.pointer none, .int .i64 s, .int .i64 t] w fun e w' => e = .returned (.tuple #[.agg #[.int .i64 0, .int .i64 0], .int .i64 11]) ∧ Turn [] w w' := by
  go_enter Try.func44, Try.ntmps44
  go_wp2_with fail
  refine bodyPost_ret (v := .tuple #[.agg #[.int .i64 0, .int .i64 0], .int .i64 11]) (by simp [results, Try.results44, go_sem]) rfl ⟨rfl, ?_⟩
  exact (Turn.refl _ _).alloc _

/-- look, whatever the sender and the tick. -/
theorem look_c (q bm : Nat) (times : Int) (m : List (Int × Int × Int)) (s t : Int) (w : World) (hq : QIs w q bm times m) (h4 : t ≤ 9223372036854775807) :
    Calls Try.prog 44 #[.pointer (some ⟨q, 0, none⟩), .int .i64 s, .int .i64 t] w fun e w' => e = .returned (.tuple #[.agg #[.int .i64 (qlook m s t).1.1, .int .i64 (qlook m s t).1.2], .int .i64 (qlook m s t).2]) ∧ Turn [] w w' := by
  by_cases h : s < 1 ∨ 65535 < s ∨ t < 0
  · exact look_no q s t m w h
  · exact look_ok q bm times m s t w hq (by omega) (by omega) (by omega) h4
end Go.Proofs.Ytpdencmgjihnfaa
