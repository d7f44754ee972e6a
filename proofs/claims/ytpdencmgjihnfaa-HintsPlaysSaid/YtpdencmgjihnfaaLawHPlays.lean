/- Whatever is offered, taken, dropped and forgotten, the hints answer as the document does. No condition. -/
import Derived.Test.YtpdencmgjihnfaaRows
import Derived.Test.YtpdencmgjihnfaaLawKit
import Derived.Test.YtpdencmgjihnfaaHPlays
import Derived.Test.YtpdencmgjihnfaaActs
namespace Go.Proofs.Ytpdencmgjihnfaa.hintsPlays
open Go.Proofs.Ytpdencmgjihnfaa
open Go.ChangeShapes Go.WideShapes Go.ChangeAt Go.RowKit Go.Deep

theorem own : ownKnob Try.prog.godebug = none := by kernel_rfl
theorem laidOut : laidOutB Try.prog = true := by kernel_rfl
theorem params_ok : ∀ t ∈ [37, 3, 22, 3, 3], Try.prog.readableRec t = true ∧ t < Try.prog.types.size := by
  have h : ([37, 3, 22, 3, 3].all fun t => Try.prog.readableRec t && decide (t < Try.prog.types.size)) = true := by kernel_rfl
  intro t ht
  have := List.all_eq_true.1 h t ht
  simpa using this

set_option maxRecDepth 100000 in
theorem lifted (os : Os) (started : os.Started) (H : Type) (enc : TypeId × Value → H) :
    ReturnsInHanded {} Try.checked os 4 .any (Rows.hintsPlaysSpec.pre6 enc Try.prog Try.f4 Rows.hintsPlaysRow.domain false) (Rows.hintsPlaysSpec.post enc Try.prog Try.f4 false true false false) := by
  refine returnsInHanded_of_change (C := Try.checked) own started (by kernel_rfl) Try.func4
    (ChangeSpec.witness6 (enc := enc) (C := Try.checked) false ⟨#[], #[.agg #[.int .i64 0, .int .i64 0, .int .i64 0, .int .i64 0], .int .i64 0, .slice none 0 0, .int .i64 0, .int .i64 0], []⟩ 8 (by kernel_rfl) (by kernel_rfl) (by kernel_rfl) (by kernel_rfl)) ?_
  intro W base args ds gs before hval0 hW hcnd _
  have hval : ∀ (j : Nat) t v, Try.f4.params[j]? = some t → args[j]? = some v → Value.okWide Try.prog W .any base t v := hval0
  have hW' := hW
  obtain ⟨p, q, hA0, hV, rfl, hfz, hnd⟩ := hW
  have hA : DataW.TrodAll enc Try.prog W 0 (fun _ => true) true Try.f4.params.toList args.toList ds p := hA0
  rw [Try.params4] at hA hval
  have hA' : DataW.TrodAll enc Try.prog W 0 (fun _ => true) true [37, 3, 22, 3, 3] args.toList ds p := hA
  obtain ⟨v0, vs0, d0, ds0, p0, q0, hargs, rfl, rfl, h0, r0⟩ := trodAll_cons hA
  obtain ⟨v1, vs1, d1, ds1, p1, q1, rfl, rfl, rfl, h1, r1⟩ := trodAll_cons r0
  obtain ⟨v2, vs2, d2, ds2, p2, q2, rfl, rfl, rfl, h2, r2⟩ := trodAll_cons r1
  obtain ⟨v3, vs3, d3, ds3, p3, q3, rfl, rfl, rfl, h3, r3⟩ := trodAll_cons r2
  obtain ⟨v4, vs4, d4, ds4, p4, q4, rfl, rfl, rfl, h4, r4⟩ := trodAll_cons r3
  obtain ⟨rfl, rfl, rfl⟩ := trodAll_nil r4
  obtain rfl : args = #[v0, v1, v2, v3, v4] := by cases args; simp_all
  obtain ⟨rfl, rfl⟩ := trodVars_none hV
  obtain ⟨a0, b0, c0, d0x, e0, w0, wb0, wc0, wd0⟩ := open_ints4 Try.underlying37 (by kernel_rfl) (by kernel_rfl) rfl (by intro f hf; simp at hf; rcases hf with rfl | rfl | rfl | rfl <;> exact Try.underlying3) (hval 0 37 v0 rfl rfl) h0
  subst e0
  obtain ⟨a1, e1, -, -, w1⟩ := open_int Try.underlying3 (hval 1 3 v1 rfl rfl) h1
  subst e1
  obtain ⟨A2, len2, cap2, F2, As2, ns2, cs2, G2, e2, m2, r2'⟩ := open_acts (k := 3) Try.underlying22 Try.underlying35 (by kernel_rfl) (by kernel_rfl) rfl (by decide)
    (by intro j f hj hf; have hj' : j = 0 ∨ j = 1 ∨ j = 2 := by omega
        rcases hj' with rfl | rfl | rfl <;> (simp at hf; subst hf; exact Try.underlying3)) (by intro f hf; simp at hf; subst hf; rfl) Try.underlying33 Try.underlying37 (by kernel_rfl) (by kernel_rfl) (by decide)
    (by intro f hf; simp at hf; rcases hf with rfl | rfl | rfl | rfl <;> exact Try.underlying3) (hval 2 22 v2 rfl rfl) h2
  subst e2
  obtain ⟨a3, e3, -, -, w3⟩ := open_int Try.underlying3 (hval 3 3 v3 rfl rfl) h3
  subst e3
  obtain ⟨a4, e4, -, -, w4⟩ := open_int Try.underlying3 (hval 4 3 v4 rfl rfl) h4
  subst e4
  clear hA0 hval0
  refine (hplays_walk a0 b0 c0 d0x a1 A2 len2 cap2 F2 As2 ns2 cs2 G2 a3 a4 W m2 r2' (by simp [Lit.wf, IntKind.min, IntKind.max, IntKind.signed, IntKind.bits] at w4; omega)).mono fun e W' ⟨he, hT⟩ => ?_
  subst he
  have bel := hT.nil_below
  exact ⟨_, rfl, _, _, _, [], _, [], hW', trodAll_mk1 (shut_bool Try.underlying4 _), trodAll_below laidOut bel params_ok hA' (trodAll_lt hA'), rfl, bel.frame _, fun h => by cases h⟩

theorem proved : Rows.HintsPlaysSaid :=
  OpenClaim.holds_of_wide 4 Try.f4 rfl rfl rfl rfl rfl rfl rfl ⟨rfl, rfl, rfl, rfl, rfl⟩ rfl rfl rfl rfl rfl (by kernel_rfl) Try.func4 (by kernel_rfl)
    (of_decide_eq_true (by kernel_rfl)) (by unfold Func.isWrapper; first | (rw [if_pos (by decide +kernel)]; kernel_rfl) | (rw [if_neg (by decide +kernel)]; exact ⟨rfl, rfl⟩))
    (fun os started H enc _ => lifted os started H enc)
#print axioms proved
end Go.Proofs.Ytpdencmgjihnfaa.hintsPlays
