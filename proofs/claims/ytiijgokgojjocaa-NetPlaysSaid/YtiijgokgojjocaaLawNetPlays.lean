/- Whatever is sent, injected, due, ruled, cut and healed, each answer, all mails, and all counts, are the document answer. No condition. -/
import Derived.Test.YtiijgokgojjocaaRows
import Derived.Test.YtiijgokgojjocaaLawKit
import Derived.Test.YtiijgokgojjocaaNpPlays
import Derived.Test.YtiijgokgojjocaaOpenA
namespace Go.Proofs.Ytiijgokgojjocaa.netPlays
open Go.Proofs.Ytiijgokgojjocaa
open Go.ChangeShapes Go.WideShapes Go.ChangeAt Go.RowKit Go.Deep

theorem own : ownKnob Try.prog.godebug = none := by kernel_rfl
theorem laidOut : laidOutB Try.prog = true := by kernel_rfl
theorem params_ok : ∀ t ∈ [22, 45, 3, 3], Try.prog.readableRec t = true ∧ t < Try.prog.types.size := by
  have h : ([22, 45, 3, 3].all fun t => Try.prog.readableRec t && decide (t < Try.prog.types.size)) = true := by kernel_rfl
  intro t ht
  have := List.all_eq_true.1 h t ht
  simpa using this

set_option maxRecDepth 100000 in
theorem lifted (os : Os) (started : os.Started) (H : Type) (enc : TypeId × Value → H) :
    ReturnsInHanded {} Try.checked os 6 .any (Rows.netPlaysSpec.pre6 enc Try.prog Try.f6 Rows.netPlaysRow.domain false) (Rows.netPlaysSpec.post enc Try.prog Try.f6 false true false false) := by
  refine returnsInHanded_of_change (C := Try.checked) own started (by kernel_rfl) Try.func6
    (ChangeSpec.witness6 (enc := enc) (C := Try.checked) false ⟨#[], #[.int .u64 0, .slice none 0 0, .int .i64 0, .int .i64 0], []⟩ 8 (by kernel_rfl) (by kernel_rfl) (by kernel_rfl) (by kernel_rfl)) ?_
  intro W base args ds gs before hval0 hW hcnd _
  have hval : ∀ (j : Nat) t v, Try.f6.params[j]? = some t → args[j]? = some v → Value.okWide Try.prog W .any base t v := hval0
  have hW' := hW
  obtain ⟨p, q, hA0, hV, rfl, hfz, hnd⟩ := hW
  have hA : DataW.TrodAll enc Try.prog W 0 (fun _ => true) true Try.f6.params.toList args.toList ds p := hA0
  rw [Try.params6] at hA hval
  have hA' : DataW.TrodAll enc Try.prog W 0 (fun _ => true) true [22, 45, 3, 3] args.toList ds p := hA
  obtain ⟨v0, vs0, d0, ds0, p0, q0, hargs, rfl, rfl, h0, r0⟩ := trodAll_cons hA
  obtain ⟨v1, vs1, d1, ds1, p1, q1, rfl, rfl, rfl, h1, r1⟩ := trodAll_cons r0
  obtain ⟨v2, vs2, d2, ds2, p2, q2, rfl, rfl, rfl, h2, r2⟩ := trodAll_cons r1
  obtain ⟨v3, vs3, d3, ds3, p3, q3, rfl, rfl, rfl, h3, r3⟩ := trodAll_cons r2
  obtain ⟨rfl, rfl, rfl⟩ := trodAll_nil r3
  obtain rfl : args = #[v0, v1, v2, v3] := by cases args; simp_all
  obtain ⟨rfl, rfl⟩ := trodVars_none hV
  obtain ⟨a0, e0, -, -, w0⟩ := open_int Try.underlying22 (hval 0 22 v0 rfl rfl) h0
  subst e0
  obtain ⟨A1, len1, cap1, X1, e1, m1, r1'⟩ := open_acts9 Try.underlying45 Try.underlying56 rfl (by kernel_rfl)
    (by intro j f hj hf; have hj' : j = 0 ∨ j = 1 ∨ j = 2 ∨ j = 3 := by omega
        rcases hj' with rfl | rfl | rfl | rfl <;> (simp at hf; subst hf; exact ⟨rfl, by kernel_rfl, Try.underlying3⟩)) (by intro f hf; simp at hf; subst hf; exact ⟨rfl, rfl⟩) (by intro f hf; simp at hf; subst hf; exact ⟨rfl, rfl⟩)
    Try.underlying23 Try.underlying26 Try.underlying5 (by kernel_rfl) (by kernel_rfl) (by kernel_rfl) Try.underlying50 (by kernel_rfl) (by kernel_rfl) rfl
    (by intro f hf; simp at hf; rcases hf with rfl | rfl | rfl | rfl <;> exact Try.underlying3) (hval 1 45 v1 rfl rfl) h1
  subst e1
  obtain ⟨a2, e2, -, -, w2⟩ := open_int Try.underlying3 (hval 2 3 v2 rfl rfl) h2
  subst e2
  obtain ⟨a3, e3, -, -, w3⟩ := open_int Try.underlying3 (hval 3 3 v3 rfl rfl) h3
  subst e3
  clear hA0 hval0
  refine (nplays_walk a0 A1 len1 cap1 X1 a2 a3 W r1' m1 w2 w3).mono fun e W' ⟨he, hT⟩ => ?_
  subst he
  have bel := hT.nil_below
  exact ⟨_, rfl, _, _, _, [], _, [], hW', trodAll_mk1 (shut_bool Try.underlying4 _), trodAll_below laidOut bel params_ok hA' (trodAll_lt hA'), rfl, bel.frame _, fun h => by cases h⟩

theorem proved : Rows.NetPlaysSaid :=
  OpenClaim.holds_of_wide 6 Try.f6 rfl rfl rfl rfl rfl rfl rfl ⟨rfl, rfl, rfl, rfl, rfl⟩ rfl rfl rfl rfl rfl (by kernel_rfl) Try.func6 (by kernel_rfl)
    (of_decide_eq_true (by kernel_rfl)) (by unfold Func.isWrapper; first | (rw [if_pos (by decide +kernel)]; kernel_rfl) | (rw [if_neg (by decide +kernel)]; exact ⟨rfl, rfl⟩))
    (fun os started H enc _ => lifted os started H enc)
#print axioms proved
end Go.Proofs.Ytiijgokgojjocaa.netPlays
