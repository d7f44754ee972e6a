/- Slices of ints as cells. -/
import Derived.Test.YtiijgokgojjocaaChecked
import Derived.Test.YtiijgokgojjocaaOwn
import Derived.KernelRfl
import Derived.Outline
import Derived.StillTailTactics
namespace Go.Proofs.Ytiijgokgojjocaa
open Go.RowKit Go.ChangeMaps

def i64s (zs : List Int) : List Value := zs.map (.int .i64)
theorem i64s_len (zs : List Int) : (i64s zs).length = zs.length := by simp [i64s]
theorem i64s_one (zs : List Int) : ∀ u ∈ i64s zs, u.oneCell' = true := by
  intro u hu
  obtain ⟨x, _, rfl⟩ := List.mem_map.1 hu
  rfl
theorem i64s_at {w : World} {A : Option Addr} {zs : List Int} (h : Sl w A (i64s zs)) {k : Nat} (hk : k < zs.length) : ∃ b off, A = some ⟨b, off, none⟩ ∧ b < w.heap.size ∧ w.cell? ⟨b, off + k, none⟩ = some (.int .i64 zs[k]) := by
  obtain ⟨b, off, hA, hb, hc⟩ := h.at_ (k := k) (by rw [i64s_len]; exact hk)
  refine ⟨b, off, hA, hb, ?_⟩
  rw [hc]
  simp [i64s]
theorem infoI64 : (Try.prog.info? 3).map (fun i => (i.zero, i.size, i.bytes)) = some (some (.int .i64 0), 1, 8) := by kernel_rfl
theorem elemI : ElemT Try.prog 95 3 (.int .i64 0) 1 8 := ⟨Try.underlying95, info_parts infoI64, rfl, by decide⟩

end Go.Proofs.Ytiijgokgojjocaa
