/- A view's All. -/
import Derived.Test.YtelagneielahhaaVwFind
import Derived.Test.YtelagneielahhaaSort
import Derived.Test.YtelagneielahhaaIterLay
namespace Go.Proofs.Ytelagneielahhaa
open Go.RowKit Go.ChangeMaps Go.Sort Go.Maps Go.Shelf

theorem pairwise_le_of_lt {l : List Int} (h : l.Pairwise (· < ·)) : l.Pairwise (· ≤ ·) := by
  rw [List.pairwise_iff_getElem] at h ⊢
  intro i j hi hj hij
  have := h i j hi hj hij
  omega
theorem sortsV (m : Nat) : AnyZI.SortsIn Try.prog Try.sortedA_ren Fence.wide m :=
  ⟨fun blk off cap ss W hH hblk hsz => callsIn_wide.2 (Try.slices_Sort_int blk off cap ss W hH hblk hsz),
   fun p cap W => callsIn_wide.2 (Try.slices_Sort_int_none p cap W)⟩
theorem enterVK (args : Array Value) (w : World) : (callFunc 55 args).run Try.prog w = .ok (.enter 55 args) w := by kernel_rfl
theorem enterVS (args : Array Value) (w : World) : (callFunc 54 args).run Try.prog w = .ok (.enter 54 args) w := by kernel_rfl
theorem intKeys_vm (m : VM) : intKeys (DataW.map (dm (kv ven m))) = m.map (·.1) := by
  simp only [intKeys, dm, kv, List.map_map]
  rfl
/-- Entries' cells. -/
def ecs : List En → List Value
  | [] => []
  | e :: l => [.int .i64 e.c.1, .int .i64 e.c.2.1, .int .i64 e.c.2.2.1, .int .i64 e.c.2.2.2, .bool e.down, .int .i64 e.heard, .int .i64 e.since, .int .i64 e.inc] ++ ecs l
theorem ecs_len : ∀ l : List En, (ecs l).length = l.length * 8
  | [] => rfl
  | e :: l => by rw [ecs, List.length_append, ecs_len l]; simp; omega
theorem ecs_append : ∀ a b : List En, ecs (a ++ b) = ecs a ++ ecs b
  | [], b => rfl
  | e :: a, b => by rw [List.cons_append, ecs, ecs, ecs_append a b, List.append_assoc]
theorem infoE : (Try.prog.info? 37).map (fun i => (i.zero, i.size, i.bytes)) = some (some (ven en0), 8, 64) := by kernel_rfl
theorem elemEn : ElemT Try.prog 34 37 (ven en0) 8 64 := ⟨Try.underlying34, info_parts infoE, rfl, by decide⟩

theorem VIs.rises {w : World} {v mb : Nat} {own : C4} {m : VM} (h : VIs w v mb own m) : Rises m := by
  obtain ⟨es, clock, hm, hM⟩ := h.map
  have := hM.rises Try.underlying3
  unfold kv Rises at this
  rw [List.pairwise_map] at this
  exact this
theorem VIs.look {w : World} {v mb : Nat} {own : C4} {m : VM} (h : VIs w v mb own m) {id : Int} (hid : (Lit.int .i64 id).wf = true) : (Instr.lookup 76 (.map (some mb)) (.int .i64 id) false).run Try.prog w = .ok (ven ((kget m id).getD en0)) w := by
  obtain ⟨es, clock, hm, hM⟩ := h.map
  have := hM.look Try.underlying3 Try.underlying76 zeroEn hid w mb hm
  rw [ven_get] at this
  exact this
theorem keysV_c {w : World} {v mb : Nat} {own : C4} {m : VM} (h : VIs w v mb own m) :
    Calls Try.prog 38 #[.map (some mb)] w (fun e w' => e = .returned (.func (.func 55) #[] #[.pointer (some ⟨w.heap.size, 0, none⟩)]) ∧ w' = w.alloc (.cells #[.map (some mb)] 76)) ∧
    Calls Try.prog 37 #[.func (.func 55) #[] #[.pointer (some ⟨w.heap.size, 0, none⟩)]] (w.alloc (.cells #[.map (some mb)] 76)) (fun e w' => ∃ D nn cd, e = .returned (.slice D nn cd) ∧ nn = m.length ∧ w'.ownsRow w.heap.size 3 1 (.slice D nn cd) nn (i64s (m.map (·.1))) ∧ Turn [] w w') := by
  obtain ⟨es, clock, hm, hM⟩ := h.map
  have hlen := h.le
  have hr : Rises m := by
    exact h.rises
  have hown : (w.alloc (.cells #[.map (some mb)] 76)).ownsMap Try.prog 3 heldElem mb m.length (.map (dm (kv ven m))) := by
    have := hM.owns (get_alloc hm (.cells #[.map (some mb)] 76))
    rw [kv_length] at this
    exact this
  have hsz : Maps.size (DataW.map (dm (kv ven m))) = m.length := by simp [Maps.size, dm_len, kv_length]
  have hseq := AnyZI.keys_gives (ρ := Try.keysA_ren) { Try.keysA with } Fence.wide 2 trivial rfl (by omega) w.heap.size mb m.length _ (w.alloc (.cells #[.map (some mb)] 76)) (by simp) (by simp) hown
  refine ⟨(callsIn_wide (n := 5)).1 (AnyZI.keys_in Try.keysA Fence.wide 5 trivial rfl (some mb) w), ?_⟩
  have cS := AnyZI.sorted_in Try.sortedA Fence.wide 5 trivial trivial trivial trivial rfl (by omega) (sortsV _) enterVS 55 #[.pointer (some ⟨w.heap.size, 0, none⟩)] trivial enterVK _ _ (by rw [hsz]; unfold maxLen; omega) (by rw [hsz]; omega) _ hseq
  refine (show Calls Try.prog 37 _ _ _ from (callsIn_wide (n := 5)).1 cS).mono ?_
  rintro e w2 ⟨u, ss, rfl, hS, hrow, -, hB⟩
  obtain ⟨D, cd, rfl, _⟩ := own_form hrow
  have hsort : sortI ss = m.map (·.1) := by
    rw [intKeys_vm] at hS
    have hp : (m.map (·.1)).Pairwise (· < ·) := by rw [List.pairwise_map]; exact hr
    exact sortI_eq hS (pairwise_le_of_lt hp)
  have hrow' : w2.ownsRow (w.alloc (.cells #[.map (some mb)] 76)).heap.size 3 1 (.slice D ss.length cd) ss.length (i64s (sortI ss)) := hrow
  rw [hsort] at hrow'
  have hl : ss.length = m.length := by have := hrow'.1; simp [i64s] at this; exact this.symm
  exact ⟨D, ss.length, cd, rfl, hl, own_down hrow' (by simp), ((Turn.refl [] w).alloc _).trans (Turn.of_below hB [])⟩

set_option maxHeartbeats 2000000 in
theorem allV_c {w : World} {v mb : Nat} {own : C4} {m : VM} (h : VIs w v mb own m) (hw : ∀ p ∈ m, (Lit.int .i64 p.1).wf = true) :
    Calls Try.prog 11 #[.pointer (some ⟨v, 0, none⟩)] w fun e w' => ∃ D cd, e = .returned (.slice D m.length cd) ∧ w'.ownsRow w.heap.size 37 8 (.slice D m.length cd) m.length (ecs (m.map (·.2))) ∧ Turn [] w w' := by
  have KV := keysV_c h
  have cK := Lib.hid KV.1
  have cS := Lib.hid KV.2
  have HV := Lib.hid h
  have HW := Lib.hid hw
  have hle := h.le
  obtain ⟨-, -, -, -, c4⟩ := h.cells
  have hl := h.lts
  clear KV h hw
  go_enter Try.func11, Try.ntmps11
  go_wp2_with fail
  refine cK.out.mono ?_
  rintro e w1 ⟨rfl, rfl⟩
  go_wp2_with fail
  refine cS.out.mono ?_
  rintro e w2 ⟨K, nn, cd, rfl, rfl, oK, hT⟩
  have HK := Lib.hid oK
  clear oK c4
  go_wp2_with fail
  go_loopw [3, 15] (fun x ix wr => ∃ i : Nat, i ≤ m.length ∧ ix = .int .i64 i ∧ ∃ D cd', x = .slice D i cd' ∧ wr.ownsRow w2.heap.size 37 8 (.slice D i cd') i (ecs ((m.map (·.2)).take i)) ∧ Turn [] w2 wr) (fun _ i _ => m.length - (intOf i).toNat)
  case atStart => exact ⟨0, by omega, rfl, none, 0, rfl, World.ownsRow_nil _ _ _ _, Turn.refl _ _⟩
  case round =>
    obtain ⟨i, hi, rfl, D, cd', rfl, oD, hT2⟩ := hrel
    obtain ⟨w3, rfl⟩ : ∃ wo : World, wo = wr := ⟨_, rfl⟩
    have i0 : (0 : Int) ≤ (i : Int) := Int.natCast_nonneg _
    have HD := Lib.hid oD
    have hz := hT2.size
    clear oD
    by_cases hlt : i < m.length
    · have i1 : (i : Int) < (m.length : Int) := by omega
      have HV3 := Lib.hid (HV.out.turn (hT.trans hT2) (by simp) (by simp))
      obtain ⟨bK, oK, rfl, lK, k0⟩ := (Sl.of_own HK.out).turn0 hT2 |>.at_ (k := i) (by simp [i64s]; exact hlt)
      have hk0 : (i64s (m.map (·.1)))[i]'(by simp [i64s]; exact hlt) = .int .i64 m[i].1 := by simp [i64s]
      rw [hk0] at k0
      have LK := HV3.out.look (HW.out m[i] (List.getElem_mem hlt))
      rw [kget_of_mem HV.out.rises (k := m[i].1) (v := m[i].2) (List.getElem_mem hlt)] at LK
      simp only [Option.getD_some] at LK
      have htk : (m.map (·.2)).take (i + 1) = (m.map (·.2)).take i ++ [m[i].2] := by
        rw [List.take_succ_eq_append_getElem (by simpa using hlt)]
        simp
      have HTK := Lib.hid htk
      obtain ⟨-, -, -, -, c4⟩ := HV3.out.cells
      have hl3 := HV3.out.lts
      clear htk hk0
      generalize m[i].1 = id at *
      generalize m[i].2 = e at *
      obtain ⟨⟨x1, x2, x3, x4⟩, dn, hd, sn, ic⟩ := e
      unfold ven at LK
      simp only at LK
      go_wp2_with (at_builtin; refine wpList_append_sl elemEn rfl _ _ rfl D i cd' _ rfl (HD.out.alloc _) (some ⟨w3.heap.size, 0, none⟩) 1 1 [.int .i64 x1, .int .i64 x2, .int .i64 x3, .int .i64 x4, .bool dn, .int .i64 hd, .int .i64 sn, .int .i64 ic] rfl (Sl.new _ #[.int .i64 x1, .int .i64 x2, .int .i64 x3, .int .i64 x4, .bool dn, .int .i64 hd, .int .i64 sn, .int .i64 ic] _) (by simp) (by simp [Value.oneCell']) (by omega) (by omega) (by simp; omega) ?_; intro D' cd2 w4 own4 hg4 hlie4)
      go_roundw
      case rel => exact ⟨i + 1, by omega, by go_num, D', cd2, rfl, by rw [HTK.out, ecs_append]; exact own4, (hT2.alloc _).andThen (grown_turn hg4) (fun j hj => .inr (own_ltA HD.out j hj).2)⟩
      case measure => simp [intOf]; omega
    · obtain rfl : i = m.length := by omega
      have i1 : ¬ (m.length : Int) < (m.length : Int) := by omega
      have htk : (m.map (·.2)).take m.length = m.map (·.2) := List.take_of_length_le (by simp)
      have HTK := Lib.hid htk
      clear htk
      have hzz := hT.size
      go_wp2_with fail
      go_ret
      exact ⟨D, cd', by simp, by have := own_down HD.out hzz; rw [HTK.out] at this; exact this, hT.trans hT2⟩
end Go.Proofs.Ytelagneielahhaa
