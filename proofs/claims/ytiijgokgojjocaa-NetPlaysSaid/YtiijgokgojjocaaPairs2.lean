/- Maps by pairs: an entry that was made reads as before. -/
import Derived.Test.YtiijgokgojjocaaPairs
namespace Go.Proofs.Ytiijgokgojjocaa
open Go.RowKit Go.ChangeMaps Go.WideMaps

section
variable {P : Program} {k t e ti : TypeId} {es : Array MapEntry} {clock : Nat} {m : PM}
/-- Behind the making of an entry its value reads as before. -/
theorem PairsIs.entry_look (h : PairsIs es clock m) (K : KeyLaw P k) (hk : ∀ x : Int × Int, wfP x → ∃ l, keyOf P k (pk x) = some l) (ht : P.underlying t = some (.map k e)) {z : Value} (hz : ∀ w : World, (zeroValue e).run P w = .ok z w)
    {x : Int × Int} (hx : wfP x) (w : World) (b : Nat) (hb : w.heap[b]? = some (.map es clock)) {v1 : Value} {es1 : Array MapEntry} {clock1 : Nat} (hr : (Instr.mapEntry t (.map (some b)) (pk x)).run P w = .ok v1 (setBlock w b (.map es1 clock1))) :
    (Instr.lookup t (.map (some b)) (pk x) false).run P (setBlock w b (.map es1 clock1)) = .ok ((pget m x).getD z) (setBlock w b (.map es1 clock1)) := by
  have KK := Maps.Keyed.of_law K
  obtain ⟨l, hl⟩ := hk x hx
  have key : ∃ m1, PairsIs es1 clock1 m1 ∧ (pget m1 x).getD z = (pget m x).getD z := by
    rcases h.find KK hk hx w with ⟨h1, h2⟩ | ⟨j, u, h1, h2, e0, h3, h4, h5⟩
    · obtain ⟨es2, clock2, hp, hs⟩ := h.store KK hk ht hx z w b hb
      have e1 : (Instr.mapEntry t (.map (some b)) (pk x)).run P w = .ok (.tuple #[z, goInt clock]) (setBlock w b (.map (es.push ⟨pk x, z, clock⟩) (clock + 1))) := by
        simp [Instr.mapEntry, run_underlying ht, MapKept.run_getObj_map hb, KK.check w false hl, h1, hz, MapKept.run_setObj_map _ hb, Result.andThen, setBlock]
      have e2 : (Instr.mapUpdate t (.map (some b)) (pk x) z).run P w = .ok () (setBlock w b (.map (es.push ⟨pk x, z, clock⟩) (clock + 1))) := by
        simp [Instr.mapUpdate, run_underlying ht, MapKept.run_getObj_map hb, KK.check w false hl, h1, MapKept.run_setObj_map _ hb, Result.andThen, setBlock]
      rw [e1] at hr
      rw [e2] at hs
      have f1 : setBlock w b (.map (es.push ⟨pk x, z, clock⟩) (clock + 1)) = setBlock w b (.map es1 clock1) := by injection hr
      have f2 : setBlock w b (.map (es.push ⟨pk x, z, clock⟩) (clock + 1)) = setBlock w b (.map es2 clock2) := by injection hs
      have g1 : (setBlock w b (.map es1 clock1)).heap[b]? = some (.map es2 clock2) := by rw [← f1, f2]; exact get_set hb _
      rw [get_set hb] at g1
      cases g1
      refine ⟨_, hp, ?_⟩
      rw [pget_pput, if_pos rfl, pget_none.2 h2]
      try rfl
    · obtain ⟨es2, clock2, hp, hs⟩ := h.store KK hk ht hx u w b hb
      have e1 : (Instr.mapEntry t (.map (some b)) (pk x)).run P w = .ok (.tuple #[u, goInt e0.born]) (setBlock w b (.map (es.modify j (fun e' => { e' with key := pk x })) clock)) := by
        simp [Instr.mapEntry, run_underlying ht, MapKept.run_getObj_map hb, KK.check w false hl, h1, h3, h4, KK.stays w hl, MapKept.run_setObj_map _ hb, Result.andThen, setBlock]
      have e2 : (Instr.mapUpdate t (.map (some b)) (pk x) u).run P w = .ok () (setBlock w b (.map (es.modify j (fun e' => { e' with key := pk x, val := u })) clock)) := by
        simp [Instr.mapUpdate, run_underlying ht, MapKept.run_getObj_map hb, KK.check w false hl, h1, h3, h4, KK.stays w hl, MapKept.run_setObj_map _ hb, Result.andThen, setBlock]
      have e3 : es.modify j (fun e' => { e' with key := pk x }) = es.modify j (fun e' => { e' with key := pk x, val := u }) := by
        apply Array.ext'
        have h3' : es.toList[j]? = some e0 := by simpa using h3
        rw [Array.toList_modify, Array.toList_modify]
        apply List.ext_getElem?
        intro i
        rw [List.getElem?_modify, List.getElem?_modify]
        by_cases hi : j = i
        · subst hi
          simp [h3', ← h5]
        · simp [hi]
      rw [e1, e3] at hr
      rw [e2] at hs
      have f1 : setBlock w b (.map (es.modify j (fun e' => { e' with key := pk x, val := u })) clock) = setBlock w b (.map es1 clock1) := by injection hr
      have f2 : setBlock w b (.map (es.modify j (fun e' => { e' with key := pk x, val := u })) clock) = setBlock w b (.map es2 clock2) := by injection hs
      have g1 : (setBlock w b (.map es1 clock1)).heap[b]? = some (.map es2 clock2) := by rw [← f1, f2]; exact get_set hb _
      rw [get_set hb] at g1
      cases g1
      refine ⟨_, hp, ?_⟩
      rw [pget_pput, if_pos rfl, pget_at h.nodup h2]
      try rfl
  obtain ⟨m1, hp, he⟩ := key
  rw [hp.look KK hk ht hz hx _ b (get_set hb _), he]
end
end Go.Proofs.Ytiijgokgojjocaa
