/- Probes as a row; who is such. -/
import Derived.Test.YthmpkpifeickpaaSort
import Derived.Test.YthmpkpifeickpaaKeys
import Derived.Maps.RangeWalk
import Derived.Laws.IdiomRangeMap
namespace Go.Proofs.Ythmpkpifeickpaa
open Go.RowKit Go.ChangeMaps
open Go.Maps (Keyed int_keyed keyOf_int_mk)

abbrev PM := List (Int × Int × Bool)
def pv (x : Int × Bool) : Value := .agg #[.int .i64 x.1, .bool x.2]
/-- Who of the probes is such. -/
def idsOf (is : Int × Bool → Bool) (m : PM) : List Int := (m.filter (fun x => is x.2)).map (·.1)

/-- What has come so far. -/
structure Came (m : PM) (is : Int × Bool → Bool) (left : Lit → Bool) (xs : List Int) : Prop where
  has : ∀ x : Int, left (.int .i64 x) = true → (kget m x).isSome = true
  mem : ∀ x : Int, x ∈ xs ↔ ∃ a, kget m x = some a ∧ is a = true ∧ left (.int .i64 x) = false
  nodup : xs.Nodup
theorem Came.start (m : PM) (is : Int × Bool → Bool) : Came m is (Maps.has (DataW.map (dm (kv pv m)))) [] := by
  refine ⟨fun x h => ?_, fun x => ?_, List.nodup_nil⟩
  · rw [dm_has, kget_kv] at h
    simpa using h
  · constructor
    · intro h; cases h
    · rintro ⟨a, h1, _, h2⟩
      rw [dm_has, kget_kv, h1] at h2
      cases h2
theorem Came.step {m : PM} {is : Int × Bool → Bool} {left : Lit → Bool} {xs : List Int} (h : Came m is left xs) {x : Int} {a : Int × Bool} (hl : left (.int .i64 x) = true) (hx : kget m x = some a) :
    Came m is (fun z => left z && !z.sameKey (.int .i64 x)) (if is a then xs ++ [x] else xs) := by
  have hno : x ∉ xs := fun hm => by
    obtain ⟨_, _, _, h3⟩ := (h.mem x).1 hm
    rw [hl] at h3
    cases h3
  refine ⟨fun y hy => ?_, fun y => ?_, ?_⟩
  · simp only [Bool.and_eq_true] at hy
    exact h.has y hy.1
  · have e : (left (.int .i64 y) && !(Lit.int .i64 y).sameKey (.int .i64 x)) = false ↔ (left (.int .i64 y) = false ∨ y = x) := by
      rw [sameInt]
      cases left (.int .i64 y) <;> simp
    simp only [e]
    by_cases hyx : y = x
    · subst hyx
      cases ha : is a with
      | true => simp [hx, ha]
      | false => simp [hx, ha, hno]
    · have : (y ∈ if is a then xs ++ [x] else xs) ↔ y ∈ xs := by split <;> simp [hyx]
      rw [this, h.mem]
      simp [hyx]
  · split
    · rw [List.nodup_append]
      exact ⟨h.nodup, by simp, fun y hy z hz => by simp at hz; subst hz; exact fun e => hno (e ▸ hy)⟩
    · exact h.nodup
theorem Rises.map_lt {m : PM} (h : Rises m) (is : Int × Bool → Bool) : (idsOf is m).Pairwise (· < ·) := by
  unfold idsOf
  rw [List.pairwise_map]
  exact List.Pairwise.filter _ h
theorem Came.done {m : PM} {is : Int × Bool → Bool} {left : Lit → Bool} {xs : List Int} (h : Came m is left xs) (hr : Rises m) (hl : ∀ kl, left kl = false) : sortI xs = idsOf is m := by
  have hlt := hr.map_lt is
  refine sortI_eq ?_ (hlt.imp (fun hab => by omega))
  rw [List.perm_ext_iff_of_nodup h.nodup (hlt.imp (fun hab => by omega))]
  intro x
  rw [h.mem]
  unfold idsOf
  simp only [List.mem_map, List.mem_filter]
  constructor
  · rintro ⟨a, h1, h2, _⟩
    exact ⟨(x, a), ⟨kget_mem h1, h2⟩, rfl⟩
  · rintro ⟨⟨x', a⟩, ⟨h1, h2⟩, rfl⟩
    exact ⟨a, kget_of_mem hr h1, h2, hl _⟩
theorem came_val {m : PM} {x : Int} {c : Value} (h : ∀ zd, (DataW.map (dm (kv pv m))).atKey (.int .i64 x) zd = .held c) : ∃ a, kget m x = some a ∧ c = pv a := by
  have h1 := h (.held (.bool true))
  have h2 := h (.held (.bool false))
  rw [dm_atKey, kget_kv] at h1 h2
  cases hk : kget m x with
  | none =>
    rw [hk] at h1 h2
    simp at h1 h2
    rw [← h1] at h2
    cases h2
  | some a =>
    rw [hk] at h1
    simp at h1
    exact ⟨a, rfl, h1.symm⟩

set_option maxRecDepth 100000 in
set_option maxHeartbeats 1000000 in
theorem such_c1 (p b : Nat) (m : PM) (F : FuncId) (v : Value) (is : Int × Bool → Bool) (es : Array MapEntry) (clock : Nat) (w : World) (hp : Blk w p 25 #[.map (some b)]) (hb : w.heap[b]? = some (.map es clock)) (hM : MapIs Try.prog 3 es clock (kv pv m)) (hlen : m.length ≤ 16) (hr : Rises m)
    (hF : ∀ args w, (callFunc F args).run Try.prog w = .ok (.enter F args) w) (H : ∀ wz, Turn [] w wz → ∀ (s : Int) (t : Bool), Calls Try.prog F #[.agg #[.int .i64 s, .bool t], v] wz fun e w' => e = .returned (.bool (is (s, t))) ∧ Turn [] wz w') :
    Calls Try.prog 19 #[.pointer (some ⟨p, 0, none⟩), .func (.func F) #[] #[v]] w fun e w' => ∃ D nn cd, e = .returned (.slice D nn cd) ∧ w'.ownsRow w.heap.size 3 1 (.slice D nn cd) nn (i64s (idsOf is m)) ∧ Turn [] w w' := by
  have hown := hM.owns hb
  rw [kv_length] at hown
  have c0 := hp.cell 0
  have hl := hp.lt
  have HH := Lib.hid H
  have HO := Lib.hid hown
  have hR := Lib.hid hr
  clear H hown hM hr
  go_enter Try.func19, Try.ntmps19
  go_wp2_with (at_range; refine wpList_range_own _ rfl _ 23 rfl 3 55 (int_keyed Try.underlying3) Try.underlying23 heldElem b m.length (.map (dm (kv pv m))) rfl HO.out ?_; intro w0 hrg0 hg0 hs0)
  go_frame
  have hsz : Maps.size (DataW.map (dm (kv pv m))) = m.length := by simp [Maps.size, dm_len, kv_length]
  rw [hsz] at hrg0
  have T0 : Turn [] w w0 := Turn.of_grown hg0 (by simp)
  have HRG0 := Lib.hid hrg0
  clear hrg0 hsz hg0
  go_loopw [5] (fun out wr => ∃ left cnt xs D nn cd, out = .slice D nn cd ∧ Hid (wr.ranges Try.prog 3 heldElem b w.heap.size m.length (.map (dm (kv pv m))) left cnt) ∧ wr.ownsRow (w.heap.size + 1) 3 1 (.slice D nn cd) nn (i64s xs) ∧ Hid (Came m is left xs) ∧ nn + cnt ≤ 16 ∧ Turn [] w wr) (fun _ wr => wr.rangeLeft b w.heap.size)
  case atStart => exact ⟨_, m.length, [], none, 0, 0, rfl, HRG0, World.ownsRow_nil _ _ _ _, Lib.hid (Came.start m is), by omega, T0⟩
  case round =>
    obtain ⟨left, cnt, xs, D, nn, cd, rfl, hrg, hown1, hC, hnc, hT⟩ := hrel
    have hzr := hT.size
    go_wp2_with (at_next; refine wpList_next_ranges _ rfl (.tmp 14) rfl 3 (int_keyed Try.underlying3) heldElem (Value.int .i64) id (fun key kl hk => by obtain ⟨x, rfl, _⟩ := Maps.keyOf_int_inv Try.underlying3 hk; exact ⟨x, rfl⟩) (fun v y _ => ⟨v, rfl⟩) b w.heap.size m.length (.map (dm (kv pv m))) left cnt rfl hrg.out ?_ ?_)
    · intro hc0 hl0
      try go_frame
      have hl0' := Lib.hid hl0
      clear hl0
      go_wp2_with fail
      refine (sort_c _ D nn cd xs _ hown1 (by omega)).mono ?_
      rintro e w1 ⟨rfl, hs, hTs⟩
      go_wp2_with fail
      go_ret
      rw [hC.out.done hR.out hl0'.out] at hs
      exact ⟨D, nn, cd, by simp, own_down hs (by omega), hT.andThen hTs (fun i hi => .inr (by have := (own_ltA hown1 i hi).2; omega))⟩
    · intro x c kl y1 y2 w1 cnt1 hkey hlk hv hat hrg1 hlt hg1 hs1 hen
      try go_frame
      obtain ⟨x', ex, rfl, hwx⟩ := Maps.keyOf_int_inv Try.underlying3 hkey
      cases ex
      have hy : y1 = .held c := by simp [heldElem] at hv; exact hv.1.symm
      subst hy
      obtain ⟨a, hka, rfl⟩ := came_val hat
      have hC1 := Lib.hid (hC.out.step hlk hka)
      obtain ⟨s, t⟩ := a
      simp only [id, pv] at hen ⊢
      have T1 : Turn [w.heap.size] wr w1 := Turn.of_grown hg1 (by simp)
      have T1' : Turn [] w w1 := hT.andThen T1 (by simp)
      have hrg1' := Lib.hid hrg1
      have hDr : ∀ i ∈ blks D, w.heap.size + 1 ≤ i := fun i hi => (own_ltA hown1 i hi).2
      have own1 := own_turnA hown1 T1 (fun i hi => by have := hDr i hi; simp; omega)
      have HCL := Lib.hid (HH.out _ (T1'.alloc (.cells #[.int .i64 s, .bool t] 55)) s t)
      have hmz := hrg.out.left_eq
      clear hrg1 hat hkey hv hlk hka hg1
      cases hb2 : is (s, t) with
      | true =>
        have hb2' : Hid (is (s, t) = true) := hb2
        rw [hb2] at hC1
        clear hb2
        go_wp2_with fail
        refine HCL.out.mono ?_
        rw [hb2'.out]
        rintro e w2 ⟨rfl, hT2⟩
        have own2 := own_turnA (own1.alloc (.cells #[.int .i64 s, .bool t] 55)) hT2 (by simp)
        have hz2 := hT2.size
        simp only [World.size_alloc] at hz2
        go_wp2_with (at_builtin; go_must (refine wpList_append_sl elemI rfl _ _ rfl D nn cd (i64s xs) rfl (own2.alloc _) (some ⟨w2.heap.size, 0, none⟩) 1 1 [.int .i64 x] rfl (Sl.new _ #[.int .i64 x] _) (by simp) (by simp [Value.oneCell']) (by omega) (by omega) (by simp; omega) ?_); intro D2 cd2 w3 own3 hg3 hlie3)
        have hrg3 : w3.ranges Try.prog 3 heldElem b w.heap.size m.length (.map (dm (kv pv m))) (fun z => left z && !z.sameKey (.int .i64 x)) cnt1 := by
          have h1 := (hrg1'.out.alloc (.cells #[.int .i64 s, .bool t] 55)).kept (row := none) ⟨hT2.os, hT2.tape, hT2.output, hT2.size, fun i hi _ => hT2.block i hi (by simp)⟩ (by simp) (by simp)
          refine (h1.alloc (.cells #[.int .i64 x] 3)).kept hg3 (fun e => ?_) (fun e => ?_)
          · cases D with
            | none => cases e
            | some a =>
              have := hDr a.block (by simp [blks])
              simp at e
              have := lt_of_some hb
              omega
          · cases D with
            | none => cases e
            | some a =>
              have := hDr a.block (by simp [blks])
              simp at e
              omega
        have hm3 := hrg3.left_eq
        have HR3 := Lib.hid hrg3
        clear hrg3
        go_roundw
        case rel => exact ⟨_, cnt1, xs ++ [x], D2, nn + 1, cd2, rfl, HR3, by simpa [i64s] using own3, hC1, by omega, ((T1'.alloc _).trans hT2 |>.alloc _).andThen (grown_turn hg3) (fun i hi => .inr (by have := hDr i hi; omega))⟩
        case measure => rw [hm3, hmz]; omega
      | false =>
        have hb2' : Hid (is (s, t) = false) := hb2
        rw [hb2] at hC1
        clear hb2
        go_wp2_with fail
        refine HCL.out.mono ?_
        rw [hb2'.out]
        rintro e w2 ⟨rfl, hT2⟩
        have own2 := own_turnA (own1.alloc (.cells #[.int .i64 s, .bool t] 55)) hT2 (by simp)
        have hrg3 : w2.ranges Try.prog 3 heldElem b w.heap.size m.length (.map (dm (kv pv m))) (fun z => left z && !z.sameKey (.int .i64 x)) cnt1 :=
          (hrg1'.out.alloc (.cells #[.int .i64 s, .bool t] 55)).kept (row := none) ⟨hT2.os, hT2.tape, hT2.output, hT2.size, fun i hi _ => hT2.block i hi (by simp)⟩ (by simp) (by simp)
        have hm3 := hrg3.left_eq
        have HR3 := Lib.hid hrg3
        clear hrg3
        go_wp2_with fail
        go_roundw
        case rel => exact ⟨_, cnt1, xs, D, nn, cd, rfl, HR3, own2, hC1, by omega, (T1'.alloc _).trans hT2⟩
        case measure => rw [hm3, hmz]; omega

set_option maxRecDepth 100000 in
set_option maxHeartbeats 1000000 in
theorem such_c0 (p b : Nat) (m : PM) (F : FuncId) (is : Int × Bool → Bool) (es : Array MapEntry) (clock : Nat) (w : World) (hp : Blk w p 25 #[.map (some b)]) (hb : w.heap[b]? = some (.map es clock)) (hM : MapIs Try.prog 3 es clock (kv pv m)) (hlen : m.length ≤ 16) (hr : Rises m)
    (hF : ∀ args w, (callFunc F args).run Try.prog w = .ok (.enter F args) w) (H : ∀ wz, Turn [] w wz → ∀ (s : Int) (t : Bool), Calls Try.prog F #[.agg #[.int .i64 s, .bool t]] wz fun e w' => e = .returned (.bool (is (s, t))) ∧ Turn [] wz w') :
    Calls Try.prog 19 #[.pointer (some ⟨p, 0, none⟩), .func (.func F) #[] #[]] w fun e w' => ∃ D nn cd, e = .returned (.slice D nn cd) ∧ w'.ownsRow w.heap.size 3 1 (.slice D nn cd) nn (i64s (idsOf is m)) ∧ Turn [] w w' := by
  have hown := hM.owns hb
  rw [kv_length] at hown
  have c0 := hp.cell 0
  have hl := hp.lt
  have HH := Lib.hid H
  have HO := Lib.hid hown
  have hR := Lib.hid hr
  clear H hown hM hr
  go_enter Try.func19, Try.ntmps19
  go_wp2_with (at_range; refine wpList_range_own _ rfl _ 23 rfl 3 55 (int_keyed Try.underlying3) Try.underlying23 heldElem b m.length (.map (dm (kv pv m))) rfl HO.out ?_; intro w0 hrg0 hg0 hs0)
  go_frame
  have hsz : Maps.size (DataW.map (dm (kv pv m))) = m.length := by simp [Maps.size, dm_len, kv_length]
  rw [hsz] at hrg0
  have T0 : Turn [] w w0 := Turn.of_grown hg0 (by simp)
  have HRG0 := Lib.hid hrg0
  clear hrg0 hsz hg0
  go_loopw [5] (fun out wr => ∃ left cnt xs D nn cd, out = .slice D nn cd ∧ Hid (wr.ranges Try.prog 3 heldElem b w.heap.size m.length (.map (dm (kv pv m))) left cnt) ∧ wr.ownsRow (w.heap.size + 1) 3 1 (.slice D nn cd) nn (i64s xs) ∧ Hid (Came m is left xs) ∧ nn + cnt ≤ 16 ∧ Turn [] w wr) (fun _ wr => wr.rangeLeft b w.heap.size)
  case atStart => exact ⟨_, m.length, [], none, 0, 0, rfl, HRG0, World.ownsRow_nil _ _ _ _, Lib.hid (Came.start m is), by omega, T0⟩
  case round =>
    obtain ⟨left, cnt, xs, D, nn, cd, rfl, hrg, hown1, hC, hnc, hT⟩ := hrel
    have hzr := hT.size
    go_wp2_with (at_next; refine wpList_next_ranges _ rfl (.tmp 14) rfl 3 (int_keyed Try.underlying3) heldElem (Value.int .i64) id (fun key kl hk => by obtain ⟨x, rfl, _⟩ := Maps.keyOf_int_inv Try.underlying3 hk; exact ⟨x, rfl⟩) (fun v y _ => ⟨v, rfl⟩) b w.heap.size m.length (.map (dm (kv pv m))) left cnt rfl hrg.out ?_ ?_)
    · intro hc0 hl0
      try go_frame
      have hl0' := Lib.hid hl0
      clear hl0
      go_wp2_with fail
      refine (sort_c _ D nn cd xs _ hown1 (by omega)).mono ?_
      rintro e w1 ⟨rfl, hs, hTs⟩
      go_wp2_with fail
      go_ret
      rw [hC.out.done hR.out hl0'.out] at hs
      exact ⟨D, nn, cd, by simp, own_down hs (by omega), hT.andThen hTs (fun i hi => .inr (by have := (own_ltA hown1 i hi).2; omega))⟩
    · intro x c kl y1 y2 w1 cnt1 hkey hlk hv hat hrg1 hlt hg1 hs1 hen
      try go_frame
      obtain ⟨x', ex, rfl, hwx⟩ := Maps.keyOf_int_inv Try.underlying3 hkey
      cases ex
      have hy : y1 = .held c := by simp [heldElem] at hv; exact hv.1.symm
      subst hy
      obtain ⟨a, hka, rfl⟩ := came_val hat
      have hC1 := Lib.hid (hC.out.step hlk hka)
      obtain ⟨s, t⟩ := a
      simp only [id, pv] at hen ⊢
      have T1 : Turn [w.heap.size] wr w1 := Turn.of_grown hg1 (by simp)
      have T1' : Turn [] w w1 := hT.andThen T1 (by simp)
      have hrg1' := Lib.hid hrg1
      have hDr : ∀ i ∈ blks D, w.heap.size + 1 ≤ i := fun i hi => (own_ltA hown1 i hi).2
      have own1 := own_turnA hown1 T1 (fun i hi => by have := hDr i hi; simp; omega)
      have HCL := Lib.hid (HH.out _ (T1'.alloc (.cells #[.int .i64 s, .bool t] 55)) s t)
      have hmz := hrg.out.left_eq
      clear hrg1 hat hkey hv hlk hka hg1
      cases hb2 : is (s, t) with
      | true =>
        have hb2' : Hid (is (s, t) = true) := hb2
        rw [hb2] at hC1
        clear hb2
        go_wp2_with fail
        refine HCL.out.mono ?_
        rw [hb2'.out]
        rintro e w2 ⟨rfl, hT2⟩
        have own2 := own_turnA (own1.alloc (.cells #[.int .i64 s, .bool t] 55)) hT2 (by simp)
        have hz2 := hT2.size
        simp only [World.size_alloc] at hz2
        go_wp2_with (at_builtin; go_must (refine wpList_append_sl elemI rfl _ _ rfl D nn cd (i64s xs) rfl (own2.alloc _) (some ⟨w2.heap.size, 0, none⟩) 1 1 [.int .i64 x] rfl (Sl.new _ #[.int .i64 x] _) (by simp) (by simp [Value.oneCell']) (by omega) (by omega) (by simp; omega) ?_); intro D2 cd2 w3 own3 hg3 hlie3)
        have hrg3 : w3.ranges Try.prog 3 heldElem b w.heap.size m.length (.map (dm (kv pv m))) (fun z => left z && !z.sameKey (.int .i64 x)) cnt1 := by
          have h1 := (hrg1'.out.alloc (.cells #[.int .i64 s, .bool t] 55)).kept (row := none) ⟨hT2.os, hT2.tape, hT2.output, hT2.size, fun i hi _ => hT2.block i hi (by simp)⟩ (by simp) (by simp)
          refine (h1.alloc (.cells #[.int .i64 x] 3)).kept hg3 (fun e => ?_) (fun e => ?_)
          · cases D with
            | none => cases e
            | some a =>
              have := hDr a.block (by simp [blks])
              simp at e
              have := lt_of_some hb
              omega
          · cases D with
            | none => cases e
            | some a =>
              have := hDr a.block (by simp [blks])
              simp at e
              omega
        have hm3 := hrg3.left_eq
        have HR3 := Lib.hid hrg3
        clear hrg3
        go_roundw
        case rel => exact ⟨_, cnt1, xs ++ [x], D2, nn + 1, cd2, rfl, HR3, by simpa [i64s] using own3, hC1, by omega, ((T1'.alloc _).trans hT2 |>.alloc _).andThen (grown_turn hg3) (fun i hi => .inr (by have := hDr i hi; omega))⟩
        case measure => rw [hm3, hmz]; omega
      | false =>
        have hb2' : Hid (is (s, t) = false) := hb2
        rw [hb2] at hC1
        clear hb2
        go_wp2_with fail
        refine HCL.out.mono ?_
        rw [hb2'.out]
        rintro e w2 ⟨rfl, hT2⟩
        have own2 := own_turnA (own1.alloc (.cells #[.int .i64 s, .bool t] 55)) hT2 (by simp)
        have hrg3 : w2.ranges Try.prog 3 heldElem b w.heap.size m.length (.map (dm (kv pv m))) (fun z => left z && !z.sameKey (.int .i64 x)) cnt1 :=
          (hrg1'.out.alloc (.cells #[.int .i64 s, .bool t] 55)).kept (row := none) ⟨hT2.os, hT2.tape, hT2.output, hT2.size, fun i hi _ => hT2.block i hi (by simp)⟩ (by simp) (by simp)
        have hm3 := hrg3.left_eq
        have HR3 := Lib.hid hrg3
        clear hrg3
        go_wp2_with fail
        go_roundw
        case rel => exact ⟨_, cnt1, xs, D, nn, cd, rfl, HR3, own2, hC1, by omega, (T1'.alloc _).trans hT2⟩
        case measure => rw [hm3, hmz]; omega
end Go.Proofs.Ythmpkpifeickpaa
