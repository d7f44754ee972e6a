/- A view's Find, Has, Own. -/
import Derived.Test.YtelagneielahhaaVw
namespace Go.Proofs.Ytelagneielahhaa
open Go.RowKit Go.ChangeMaps Go.MapKept

def enVal (e : En) : Value := ven e
theorem ven_get (m : VM) (k : Int) : ((kget (kv ven m) k).getD (ven en0)) = ven ((kget m k).getD en0) := by
  rw [kget_kv]
  cases kget m k <;> rfl
/-- What Find tells. -/
def findE (m : VM) (id : Int) : Int := if (kget m id).isSome then 0 else 7
set_option maxHeartbeats 2000000 in
theorem findV_c {w : World} {v mb : Nat} {own : C4} {m : VM} (h : VIs w v mb own m) (id : Int) (hid : (Lit.int .i64 id).wf = true) :
    Calls Try.prog 12 #[.pointer (some ⟨v, 0, none⟩), .int .i64 id] w fun e w' => e = .returned (.tuple #[ven ((kget m id).getD en0), .int .i64 (findE m id)]) ∧ Turn [] w w' := by
  have h0 := h
  obtain ⟨es, clock, h3, h4⟩ := h.map
  have ha : ∀ o : Obj, (w.alloc o).heap[mb]? = some (.map es clock) := fun o => get_alloc h3 o
  have L := fun wz (hz : wz.heap[mb]? = some (.map es clock)) => h4.look_ok Try.underlying3 Try.underlying76 zeroEn hid wz mb hz
  rw [ven_get] at L
  have hs : (kget (kv ven m) id).isSome = (kget m id).isSome := by rw [kget_kv]; cases kget m id <;> rfl
  rw [hs] at L
  have LA := fun o => L (w.alloc o) (ha o)
  obtain ⟨-, -, -, -, c4⟩ := h.cells
  have hl := h.lts
  unfold findE
  have hx : (kget m id).isSome = false → (kget m id).getD en0 = en0 := fun hn => by
    cases hk : kget m id with
    | none => rfl
    | some x => rw [hk] at hn; cases hn
  have HX := Lib.hid hx
  clear h h4 hs L hx h0
  generalize hev : (kget m id).getD en0 = ev at *
  have HEV := Lib.hid hev
  clear hev
  obtain ⟨⟨x1, x2, x3, x4⟩, dn, hd, sn, ic⟩ := ev
  unfold ven at LA
  simp only at LA
  cases hb : (kget m id).isSome with
  | true =>
    rw [hb] at LA
    clear hb
    go_enter Try.func12, Try.ntmps12
    go_wp2_with fail
    refine bodyPost_ret (v := .tuple #[ven ⟨(x1, x2, x3, x4), dn, hd, sn, ic⟩, .int .i64 0]) ?_ rfl ⟨by simp, ?_⟩
    · simp [results, Try.results12, go_sem, ven]
    · first
        | exact ((Turn.refl _ _).alloc _).alloc _
        | exact (((Turn.refl _ _).alloc _).alloc _).setCell (.inr (by simp)) _
  | false =>
    have hen := HX.out hb
    rw [hb] at LA
    clear hb HX HEV
    unfold en0 at hen
    cases hen
    go_enter Try.func12, Try.ntmps12
    go_wp2_with fail
    refine bodyPost_ret (v := .tuple #[ven ⟨(0, 0, 0, 0), false, 0, 0, 0⟩, .int .i64 7]) ?_ rfl ⟨by simp, ?_⟩
    · simp [results, Try.results12, go_sem, ven]
    · first
        | exact ((Turn.refl _ _).alloc _).alloc _
        | exact (((Turn.refl _ _).alloc _).alloc _).setCell (.inr (by simp)) _
theorem ownV_c {w : World} {v mb : Nat} {own : C4} {m : VM} (h : VIs w v mb own m) :
    Calls Try.prog 20 #[.pointer (some ⟨v, 0, none⟩)] w fun e w' => e = .returned (cval own) ∧ Turn [] w w' := by
  obtain ⟨c0, c1, c2, c3, -⟩ := h.cells
  have hl := h.lts
  obtain ⟨a, b, c, d⟩ := own
  simp only at c0 c1 c2 c3
  clear h
  go_enter Try.func20, Try.ntmps20
  go_wp2_with fail
  refine bodyPost_ret (v := cval (a, b, c, d)) ?_ rfl ⟨by simp, ?_⟩
  · simp [results, Try.results20, go_sem, cval]
  · first
      | exact (Turn.refl _ _).alloc _
      | exact ((Turn.refl _ _).alloc _).setCell (.inr (by simp)) _
end Go.Proofs.Ytelagneielahhaa
