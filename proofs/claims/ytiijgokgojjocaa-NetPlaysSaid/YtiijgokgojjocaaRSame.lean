/- vigillaw30's same. -/
import Derived.Test.YtiijgokgojjocaaRNet
namespace Go.Proofs.Ytiijgokgojjocaa
open Go.RowKit Go.ChangeMaps Go.WideMaps Go.MapKept Go.WideShapes

theorem pure_get {l1 l2 : List Ml} (h : l1.map Ml.pure = l2.map Ml.pure) {i : Nat} (h1 : i < l1.length) (h2 : i < l2.length) : l2[i].due = l1[i].due ∧ l2[i].fr = l1[i].fr ∧ l2[i].dst = l1[i].dst ∧ l2[i].xs = l1[i].xs := by
  have e : (l1.map Ml.pure)[i]? = (l2.map Ml.pure)[i]? := by rw [h]
  rw [List.getElem?_map, List.getElem?_map, List.getElem?_eq_getElem h1, List.getElem?_eq_getElem h2] at e
  simp only [Option.map_some, Option.some.injEq, Ml.pure, Prod.mk.injEq] at e
  exact ⟨e.1.symm, e.2.1.symm, e.2.2.1.symm, e.2.2.2.symm⟩
set_option maxRecDepth 100000 in
set_option maxHeartbeats 4000000 in
theorem same30_c (A1 : Option Addr) (n c1 : Nat) (l1 : List Ml) (A2 : Option Addr) (n2 c2 : Nat) (l2 : List Ml) (w : World) (h1 : Sl w A1 (mcs l1)) (h2 : Sl w A2 (mcs l2)) (e1 : l1.length = n) (e2 : l2.length = n2) (hl : n ≤ 1000000) (heq : l1.map Ml.pure = l2.map Ml.pure) (ok1 : ∀ x ∈ l1, MlOk w x) (ok2 : ∀ x ∈ l2, MlOk w x.norm) :
    Calls Try.prog 20 #[.slice A1 n c1, .slice A2 n2 c2] w fun e w' => e = .returned (.bool true) ∧ Turn [] w w' := by
  have hnn : n2 = n := by
    have := congrArg List.length heq
    rw [List.length_map, List.length_map] at this
    omega
  subst hnn
  have H1 := Lib.hid h1
  have H2 := Lib.hid h2
  have E1 := Lib.hid e1
  have E2 := Lib.hid e2
  have HQ := Lib.hid heq
  have OK1 := Lib.hid ok1
  have OK2 := Lib.hid ok2
  clear h1 h2 e1 e2 heq ok1 ok2
  go_enter Try.func20, Try.ntmps20
  go_wp2_with fail
  go_loopw [5] (fun ix wr => ∃ i : Nat, i ≤ n2 ∧ ix = .int .i64 ((i : Nat) : Int) ∧ Turn [] w wr) (fun ix _ => n2 - (intOf ix).toNat)
  case atStart => exact ⟨0, by omega, rfl, Turn.refl _ _⟩
  case round =>
    obtain ⟨i, hi, rfl, hT⟩ := hrel
    obtain ⟨wx, rfl⟩ : ∃ wo : World, wo = wr := ⟨_, rfl⟩
    have i0 : (0 : Int) ≤ (i : Int) := Int.natCast_nonneg _
    by_cases hlt : i < n2
    · have i1 : (i : Int) < (n2 : Int) := by omega
      have k1 : i < l1.length := by have := E1.out; omega
      have k2 : i < l2.length := by have := E2.out; omega
      obtain ⟨b1, p1, rfl, bl1, y0, y1, y2, y3⟩ := mcs_at (H1.out.turn0 hT) k1
      obtain ⟨b2, p2, rfl, bl2, z0, z1, z2, z3⟩ := mcs_at (H2.out.turn0 hT) k2
      obtain ⟨g1, g2, g3, g4⟩ := pure_get HQ.out k1 k2
      have m1 := (OK1.out _ (List.getElem_mem k1)).turn hT (by simp)
      have m2 := (OK2.out _ (List.getElem_mem k2)).turn hT (by simp)
      have SM := fun wz (hz : Turn [] wx wz) => same_c l1[i].A l2[i].A l1[i].n l2[i].n l1[i].c l2[i].c l1[i].xs l2[i].xs wz (m1.sl.turn0 hz) (m2.normSl.turn0 hz) m1.len m2.len (by have := m1.le; omega)
      rw [g4, decide_eq_true rfl] at SM
      rw [g1] at z0
      rw [g2] at z1
      rw [g3] at z2
      have HSM := Lib.hid SM
      clear SM m1 m2 g1 g2 g3 g4
      generalize l1[i].due = x0 at *
      generalize l1[i].fr = x1 at *
      generalize l1[i].dst = x2 at *
      generalize l1[i].A = xA at *
      generalize l1[i].n = xn at *
      generalize l1[i].c = xc at *
      generalize l2[i].A = yA at *
      generalize l2[i].n = yn at *
      generalize l2[i].c = yc at *
      have AE : ∀ wy, Turn [] wx wy → (wy.cell? ⟨b1, p1 + i * 4, none⟩ = some (.int .i64 x0) ∧ wy.cell? ⟨b1, p1 + i * 4 + 1, none⟩ = some (.int .i64 x1) ∧ wy.cell? ⟨b1, p1 + i * 4 + 2, none⟩ = some (.int .i64 x2) ∧ wy.cell? ⟨b1, p1 + i * 4 + 3, none⟩ = some (.slice xA xn xc) ∧ wy.cell? ⟨b2, p2 + i * 4, none⟩ = some (.int .i64 x0) ∧ wy.cell? ⟨b2, p2 + i * 4 + 1, none⟩ = some (.int .i64 x1) ∧ wy.cell? ⟨b2, p2 + i * 4 + 2, none⟩ = some (.int .i64 x2) ∧ wy.cell? ⟨b2, p2 + i * 4 + 3, none⟩ = some (.slice yA yn yc) ∧ Turn [] wx wy) := fun wy hy =>
        ⟨(hy.cell bl1 (by simp)).trans y0, (hy.cell bl1 (by simp)).trans y1, (hy.cell bl1 (by simp)).trans y2, (hy.cell bl1 (by simp)).trans y3, (hy.cell bl2 (by simp)).trans z0, (hy.cell bl2 (by simp)).trans z1, (hy.cell bl2 (by simp)).trans z2, (hy.cell bl2 (by simp)).trans z3, hy⟩
      have TD : Turn [] wx wx.drew := (Turn.refl [] wx).drew
      go_wp2_with fail
      go_region_held3 (fun w' => w'.cell? ⟨b1, p1 + i * 4, none⟩ = some (.int .i64 x0) ∧ w'.cell? ⟨b1, p1 + i * 4 + 1, none⟩ = some (.int .i64 x1) ∧ w'.cell? ⟨b1, p1 + i * 4 + 2, none⟩ = some (.int .i64 x2) ∧ w'.cell? ⟨b1, p1 + i * 4 + 3, none⟩ = some (.slice xA xn xc) ∧ w'.cell? ⟨b2, p2 + i * 4, none⟩ = some (.int .i64 x0) ∧ w'.cell? ⟨b2, p2 + i * 4 + 1, none⟩ = some (.int .i64 x1) ∧ w'.cell? ⟨b2, p2 + i * 4 + 2, none⟩ = some (.int .i64 x2) ∧ w'.cell? ⟨b2, p2 + i * 4 + 3, none⟩ = some (.slice yA yn yc) ∧ Turn [] wx w') (first | with_reducible exact AE _ TD | with_reducible exact AE _ T2)
        ((go_at_call 12; refine (HSM.out _ TD).mono ?_; rintro e w2 ⟨rfl, hT2⟩; have T2 : Turn [] wx w2 := TD.trans hT2))
      go_wp2_with fail
      go_roundw
      case rel => exact ⟨i + 1, by omega, by go_num, hT.trans T2⟩
      case measure => simp [intOf]; omega
    · obtain rfl : i = n2 := by omega
      have i1 : ¬ (i : Int) < (i : Int) := by omega
      go_wp2_with fail
      go_ret
      exact ⟨by simp, hT⟩
end Go.Proofs.Ytiijgokgojjocaa
