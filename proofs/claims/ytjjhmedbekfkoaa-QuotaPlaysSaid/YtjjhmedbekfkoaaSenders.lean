/- The contract of (*Quotas).Senders. -/
import Derived.Test.YtjjhmedbekfkoaaSort
import Derived.Test.YtjjhmedbekfkoaaIterLay
import Derived.Test.YtjjhmedbekfkoaaTake
namespace Go.Proofs.Ytjjhmedbekfkoaa
open Go.RowKit Go.ChangeMaps Go.Sort Go.Maps Go.Shelf

theorem sortsA (m : Nat) : AnyZI.SortsIn Try.prog Try.sortedA_ren Fence.wide m :=
  ⟨fun blk off cap ss W hH hblk hsz => callsIn_wide.2 (Try.slices_Sort_int blk off cap ss W hH hblk hsz),
   fun p cap W => callsIn_wide.2 (Try.slices_Sort_int_none p cap W)⟩
theorem enterK (args : Array Value) (w : World) : (callFunc 32 args).run Try.prog w = .ok (.enter 32 args) w := by kernel_rfl
theorem enterS (args : Array Value) (w : World) : (callFunc 31 args).run Try.prog w = .ok (.enter 31 args) w := by kernel_rfl
theorem intKeys_kv (m : List (Int × Int × Int)) : intKeys (DataW.map (dm (kv ent m))) = m.map (·.1) := by
  simp only [intKeys, dm, kv, List.map_map]
  rfl

theorem senders_c (q bm : Nat) (times : Int) (m : List (Int × Int × Int)) (w : World) (hq : QIs w q bm times m) :
    Calls Try.prog 15 #[.pointer (some ⟨q, 0, none⟩)] w fun e w' => ∃ D nn cd, e = .returned (.slice D nn cd) ∧ w'.ownsRow w.heap.size 3 1 (.slice D nn cd) nn (i64s (m.map (·.1))) ∧ Turn [] w w' := by
  obtain ⟨hb, hok, hne, es, clock, hm, hM⟩ := hq
  have hlen := hok.len
  have hr := hok.rises
  have c1 := hb.cell 1
  have hl := hb.lt
  have hbl := lt_of_some hm
  have hown : (w.alloc (.cells #[.map (some bm)] 56)).ownsMap Try.prog 3 heldElem bm m.length (.map (dm (kv ent m))) := by
    have := hM.owns (get_alloc hm (.cells #[.map (some bm)] 56))
    rw [kv_length] at this
    exact this
  have hsz : Maps.size (DataW.map (dm (kv ent m))) = m.length := by simp [Maps.size, dm_len, kv_length]
  have hseq := AnyZI.keys_gives (ρ := Try.keysA_ren) { Try.keysA with } Fence.wide 2 trivial rfl (by omega) w.heap.size bm m.length _ (w.alloc (.cells #[.map (some bm)] 56)) (by simp) (by simp) hown
  have cK : Calls Try.prog 28 #[.map (some bm)] w fun e w' => e = .returned (.func (.func 32) #[] #[.pointer (some ⟨w.heap.size, 0, none⟩)]) ∧ w' = w.alloc (.cells #[.map (some bm)] 56) :=
    (callsIn_wide (n := 5)).1 (AnyZI.keys_in Try.keysA Fence.wide 5 trivial rfl (some bm) w)
  have cS := AnyZI.sorted_in Try.sortedA Fence.wide 5 trivial trivial trivial trivial rfl (by omega) (sortsA _) enterS 32 #[.pointer (some ⟨w.heap.size, 0, none⟩)] trivial enterK _ _ (by rw [hsz]; unfold maxLen; omega) (by rw [hsz]; omega) _ hseq
  have cS' := Lib.hid ((callsIn_wide (n := 5)).1 cS)
  have cK' := Lib.hid cK
  clear cS cK hseq hown hM hsz
  go_enter Try.func15, Try.ntmps15
  go_wp2_with fail
  refine cK'.out.mono ?_
  rintro e w1 ⟨rfl, rfl⟩
  go_wp2_with fail
  refine (show Calls Try.prog 27 _ _ _ from cS'.out).mono ?_
  rintro e w2 ⟨v, ss, rfl, hS, hrow, -, hB⟩
  obtain ⟨D, cd, rfl, _⟩ := own_form hrow
  have hsort : sortI ss = m.map (·.1) := by
    rw [intKeys_kv] at hS
    have hp : (m.map (·.1)).Pairwise (· < ·) := by rw [List.pairwise_map]; exact hr
    exact sortI_eq hS (hp.imp (fun hab => by omega))
  have hrow' : w2.ownsRow (w.alloc (.cells #[.map (some bm)] 56)).heap.size 3 1 (.slice D ss.length cd) ss.length (i64s (sortI ss)) := hrow
  rw [hsort] at hrow'
  have hB' : Turn [] w w2 := ((Turn.refl [] w).alloc _).trans (Turn.of_below hB [])
  have HS := Lib.hid hsort
  clear hrow hsort hS
  go_wp2_with fail
  go_ret
  exact ⟨D, ss.length, cd, by simp, own_down hrow' (by simp), hB'⟩
end Go.Proofs.Ytjjhmedbekfkoaa
