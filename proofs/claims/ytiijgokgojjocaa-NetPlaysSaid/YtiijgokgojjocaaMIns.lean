/- Insertion into a row of mails, by due. -/
import Derived.Test.YtiijgokgojjocaaMRot
import Derived.Deep.QuietTactic
import Derived.BigQuiet
namespace Go.Proofs.Ytiijgokgojjocaa
open Go.RowKit Go.ChangeMaps Srt

def DueOk (m : Ml) : Prop := 0 ≤ m.due ∧ m.due ≤ 2147483648
theorem enterCmp (args : Array Value) (w : World) : (callFunc 34 args).run Try.prog w = .ok (.enter 34 args) w := by kernel_rfl
abbrev cmpV : Value := .func (.func 34) #[] #[]
theorem cmp_c (x1 x2 x3 : Int) (xA : Option Addr) (xn xc : Nat) (y1 y2 y3 : Int) (yA : Option Addr) (yn yc : Nat) (w : World) (hx : 0 ≤ x1 ∧ x1 ≤ 2147483648) (hy : 0 ≤ y1 ∧ y1 ≤ 2147483648) :
    Calls Try.prog 34 #[.agg #[.int .i64 x1, .int .i64 x2, .int .i64 x3, .slice xA xn xc], .agg #[.int .i64 y1, .int .i64 y2, .int .i64 y3, .slice yA yn yc]] w fun e w' => e = .returned (.int .i64 (x1 - y1)) ∧ Turn [] w w' := by
  have s : IntKind.i64.wrap (x1 - y1) = x1 - y1 := IntWalk.i64_in _ (by omega)
  go_enter Try.func34, Try.ntmps34
  go_wp2_with fail
  go_ret
  exact ⟨by simp, ((Turn.refl _ _).alloc _).alloc _⟩

set_option maxRecDepth 100000 in
set_option maxHeartbeats 2000000 in
theorem insS_c (g base N cap : Nat) (P U Q : List Ml) (w : World) (h : RowM w g base N cap (P ++ (U ++ Q))) (hD : ∀ m ∈ U, DueOk m) (hN : N ≤ 1000000) (a b : Int) (ha : a = (P.length : Int)) (hb : b = (P.length : Int) + (U.length : Int)) :
    Calls Try.prog 48 #[.slice (some ⟨g, 0, none⟩) N cap, .int .i64 a, .int .i64 b, cmpV] w (Swapped w g base N cap (P ++ (srt Ml.due U ++ Q))) := by
  subst ha
  subst hb
  have hlen := h.len
  simp only [List.length_append] at hlen
  obtain ⟨a, ha⟩ : ∃ a, a = P.length := ⟨_, rfl⟩
  rw [← ha]
  have HA := Lib.hid ha
  have HH := Lib.hid h
  have HD := Lib.hid hD
  obtain ⟨nu, hnu⟩ : ∃ nu, nu = U.length := ⟨_, rfl⟩
  rw [← hnu]
  have HNU := Lib.hid hnu
  have hul : a + nu ≤ N := by omega
  have s1 : IntKind.i64.wrap ((a : Int) + 1) = (a : Int) + 1 := IntWalk.i64_in _ (by omega)
  clear h hD ha hlen hnu
  go_enter Try.func48, Try.ntmps48
  go_wp2_with fail
  go_loopw [8] (fun ix wr => ∃ k : Nat, 1 ≤ k ∧ ix = .int .i64 ((a : Int) + (k : Int)) ∧ (k ≤ nu ∨ k = 1) ∧ RowM wr g base N cap (P ++ ((srt Ml.due (U.take k) ++ U.drop k) ++ Q)) ∧ Turn [g] w wr) (fun ix _ => a + nu - (intOf ix).toNat)
  case atStart => 
    refine ⟨1, by omega, vi (by omega), .inr rfl, ?_, Turn.refl _ _⟩
    have : srt Ml.due (U.take 1) = U.take 1 := by
      cases U with
      | nil => rfl
      | cons u U => rfl
    rw [this, List.take_append_drop]
    exact HH.out
  case round =>
    obtain ⟨k, hk1, rfl, hkn, R, hT⟩ := hrel
    obtain ⟨w1, rfl⟩ : ∃ wo : World, wo = wr := ⟨_, rfl⟩
    by_cases hlt : k < nu
    · have i1 : (a : Int) + (k : Int) < (a : Int) + (nu : Int) := by omega
      have sk : IntKind.i64.wrap ((a : Int) + (k : Int) + 1) = (a : Int) + (k : Int) + 1 := IntWalk.i64_in _ (by omega)
      have kU : k < U.length := by have := HNU.out; omega
      have hS := srt_asc (f := Ml.due) (U.take k)
      have hSl : (srt Ml.due (U.take k)).length = k := by rw [srt_length, List.length_take]; omega
      have hSD : ∀ m ∈ srt Ml.due (U.take k), DueOk m := fun m hm => HD.out m (List.mem_of_mem_take ((srt_perm _).mem_iff.1 hm))
      have hxD : DueOk U[k] := HD.out _ (List.getElem_mem kU)
      have hst : srt Ml.due (U.take (k + 1)) = ins Ml.due (srt Ml.due (U.take k)) U[k] := by rw [List.take_succ_eq_append_getElem kU, srt_snoc]
      rw [List.drop_eq_getElem_cons kU] at R
      have HST := Lib.hid hst
      have HS := Lib.hid hS
      have HSL := Lib.hid hSl
      have HSD := Lib.hid hSD
      clear hst hS hSl hSD
      generalize srt Ml.due (U.take k) = S at *
      generalize U[k] = x at *
      go_wp2_with fail
      go_loopw [9] (fun jx wr => ∃ S1 S2 : List Ml, jx = .int .i64 ((a + S1.length : Nat) : Int) ∧ Hid (S = S1 ++ S2) ∧ (∀ z ∈ S2, x.due < z.due) ∧ RowM wr g base N cap (P ++ ((S1 ++ x :: (S2 ++ U.drop (k + 1))) ++ Q)) ∧ Turn [g] w wr) (fun jx _ => (intOf jx).toNat - a)
      case atStart => exact ⟨S, [], vi (by have := HSL.out; omega), by show _ = _; simp, by simp, by simpa using R, hT⟩
      case round =>
        obtain ⟨S1, S2, rfl, hSS, hS2, R2, hT2⟩ := hrel
        obtain ⟨w2, rfl⟩ : ∃ wo : World, wo = wr := ⟨_, rfl⟩
        clear R hT
        rcases List.eq_nil_or_concat S1 with rfl | ⟨S1', y, rfl⟩
        · rw [show a + ([] : List Ml).length = a by simp]
          have j2 : decide ((a : Int) < (a : Int)) = false := by simp
          go_wp2_with fail
          go_quiet (fail)
          go_wp2_with fail
          go_roundw
          case rel =>
            refine ⟨k + 1, by omega, vi (by omega), .inl (by omega), ?_, hT2.drewN _⟩
            rw [HST.out, hSS.out]
            have := ins_between (f := Ml.due) x S2 hS2 [] (by simp)
            rw [this]
            simpa using R2.turn ((Turn.refl [] w2).drewN _) (by simp)
          case measure => simp [intOf]; omega
        · rw [List.concat_eq_append] at *
          obtain ⟨q, hq⟩ : ∃ q, q = a + S1'.length := ⟨_, rfl⟩
          have hjq : a + (S1' ++ [y]).length = q + 1 := by simp; omega
          rw [hjq]
          have hX : P ++ (((S1' ++ [y]) ++ x :: (S2 ++ U.drop (k + 1))) ++ Q) = (P ++ S1') ++ y :: ([] ++ x :: ((S2 ++ U.drop (k + 1)) ++ Q)) := by simp
          have hX' : P ++ ((S1' ++ x :: ((y :: S2) ++ U.drop (k + 1))) ++ Q) = (P ++ S1') ++ x :: ([] ++ y :: ((S2 ++ U.drop (k + 1)) ++ Q)) := by simp
          have hl1 : (P ++ S1').length = q := by rw [List.length_append]; have := HA.out; omega
          have SW := swp_mid' (P ++ S1') [] ((S2 ++ U.drop (k + 1)) ++ Q) y x
          rw [hl1, show q + 1 + ([] : List Ml).length = q + 1 by simp, ← hX'] at SW
          rw [hX] at R2
          have e1 : ((P ++ S1') ++ y :: ([] ++ x :: ((S2 ++ U.drop (k + 1)) ++ Q)))[q]? = some y := by
            rw [List.getElem?_append_right (by omega), hl1, Nat.sub_self]
            rfl
          have e2 : ((P ++ S1') ++ y :: ([] ++ x :: ((S2 ++ U.drop (k + 1)) ++ Q)))[q + 1]? = some x := by
            rw [List.getElem?_append_right (by omega), hl1, show q + 1 - q = 0 + 1 by omega]
            rfl
          have hyD : DueOk y := HSD.out y (by rw [hSS.out]; simp)
          have hql : q + 1 < N := by
            have := R2.len
            simp only [List.length_append, List.length_cons, List.length_nil] at this
            rw [List.length_append] at hl1
            omega
          have hSS' : Hid (S = S1' ++ y :: S2) := by show _ = _; rw [hSS.out]; simp
          have hyle : ∀ z ∈ S1', z.due ≤ y.due := fun z hz => by
            have h1 := HS.out
            rw [hSS'.out] at h1
            exact (asc_append.1 h1).2.2 z hz y (by simp)
          have HYL := Lib.hid hyle
          have HS2 := Lib.hid hS2
          unfold swp at SW
          have HSW := Lib.hid SW
          have HQ := Lib.hid hq
          have HXe := Lib.hid hX
          clear SW hX hX' hl1 hjq hyle hS2 hSS hq
          generalize (P ++ S1') ++ y :: ([] ++ x :: ((S2 ++ U.drop (k + 1)) ++ Q)) = X at *
          have hXl := R2.len
          have k1 : q < X.length := by omega
          have k2 : q + 1 < X.length := by omega
          have g1 := R2.cells k1
          have g2 := R2.cells k2
          rw [List.getElem?_eq_getElem k1] at e1
          rw [List.getElem?_eq_getElem k2] at e2
          injection e1 with e1
          injection e2 with e2
          rw [e1] at g1
          rw [e2] at g2
          clear e1 e2
          have gl := R2.lt.1
          have HR2 := Lib.hid R2
          have CE := fun (wz : World) (F : Ml → Ml → Prop) => trivial
          clear CE
          have CC := Lib.hid (fun wz => cmp_c x.due x.fr x.dst x.A x.n x.c y.due y.fr y.dst y.A y.n y.c wz hxD hyD)
          have hxy : (x.due < y.due ∧ x.due - y.due < 0) ∨ (¬ x.due < y.due ∧ ¬ x.due - y.due < 0) := by omega
          have HXY := Lib.hid hxy
          obtain ⟨p1, p2, p3, p4⟩ := g1
          obtain ⟨r1, r2, r3, r4⟩ := g2
          have AE : ∀ wy, Turn [] w2 wy → (wy.cell? ⟨g, q * 4, none⟩ = some (.int .i64 y.due) ∧ wy.cell? ⟨g, q * 4 + 1, none⟩ = some (.int .i64 y.fr) ∧ wy.cell? ⟨g, q * 4 + 2, none⟩ = some (.int .i64 y.dst) ∧ wy.cell? ⟨g, q * 4 + 3, none⟩ = some (.slice y.A y.n y.c) ∧
              wy.cell? ⟨g, (q + 1) * 4, none⟩ = some (.int .i64 x.due) ∧ wy.cell? ⟨g, (q + 1) * 4 + 1, none⟩ = some (.int .i64 x.fr) ∧ wy.cell? ⟨g, (q + 1) * 4 + 2, none⟩ = some (.int .i64 x.dst) ∧ wy.cell? ⟨g, (q + 1) * 4 + 3, none⟩ = some (.slice x.A x.n x.c) ∧ Turn [] w2 wy) := fun wy hy =>
            ⟨(hy.cell gl (by simp)).trans p1, (hy.cell gl (by simp)).trans p2, (hy.cell gl (by simp)).trans p3, (hy.cell gl (by simp)).trans p4, (hy.cell gl (by simp)).trans r1, (hy.cell gl (by simp)).trans r2, (hy.cell gl (by simp)).trans r3, (hy.cell gl (by simp)).trans r4, hy⟩
          have AE' := Lib.hid AE
          clear AE p1 p2 p3 p4 r1 r2 r3 r4 hxy R2 hXl k1 k2
          have t1 : decide (a < q + 1) = true := by have := HQ.out; simp; omega
          have t1b : decide ((a : Int) < (q : Int) + 1) = true := by have := HQ.out; simp; omega
          have t2 : IntKind.i64.wrap (((q + 1 : Nat) : Int) - 1) = (q : Int) := by rw [IntWalk.i64_in _ (by omega)]; omega
          have t3 : ((q + 1 : Nat) : Int) < (N : Int) := by omega
          have t4 : (q : Int) < (N : Int) := by omega
          have t5 : (0 : Int) ≤ (q : Int) := Int.natCast_nonneg _
          have t6 : (q : Int) + 1 < (N : Int) := by omega
          have t7 : (0 : Int) ≤ (q : Int) + 1 := by omega
          have t8 : ((q : Int) + 1).toNat = q + 1 := by omega
          have t9 : q + 1 < N := hql
          have t10 : q < N := by omega
          have t11 : IntKind.i64.wrap (q : Int) = (q : Int) := IntWalk.i64_in _ (by omega)
          have t12 : IntKind.i64.wrap ((q : Int) + 1 - 1) = (q : Int) := by rw [IntWalk.i64_in _ (by omega)]; omega
          have t13 : ((q : Int)).toNat = q := by omega
          have ec := enterCmp
          have T20 : Turn [] w2 w2.drew := (Turn.refl _ w2).drew
          go_wp2_with fail
          go_region_held3 (fun wy => wy.cell? ⟨g, q * 4, none⟩ = some (.int .i64 y.due) ∧ wy.cell? ⟨g, q * 4 + 1, none⟩ = some (.int .i64 y.fr) ∧ wy.cell? ⟨g, q * 4 + 2, none⟩ = some (.int .i64 y.dst) ∧ wy.cell? ⟨g, q * 4 + 3, none⟩ = some (.slice y.A y.n y.c) ∧
              wy.cell? ⟨g, (q + 1) * 4, none⟩ = some (.int .i64 x.due) ∧ wy.cell? ⟨g, (q + 1) * 4 + 1, none⟩ = some (.int .i64 x.fr) ∧ wy.cell? ⟨g, (q + 1) * 4 + 2, none⟩ = some (.int .i64 x.dst) ∧ wy.cell? ⟨g, (q + 1) * 4 + 3, none⟩ = some (.slice x.A x.n x.c) ∧ Turn [] w2 wy) (first | exact AE'.out _ (by assumption))
            ((go_at_call 34; refine (CC.out _).mono ?_; rintro e w3 ⟨rfl, hT3⟩; have T3 : Turn [] w2 w3 := T20.trans hT3))
          have R3 := HR2.out.turn T3 (by simp)
          have hT3' : Turn [g] w w3 := hT2.trans (T3.mono (by simp))
          rcases HXY.out with ⟨hd1, hd2⟩ | ⟨hd1, hd2⟩
          · have hde : decide (x.due - y.due < 0) = true := by simpa using hd2
            go_wp2_with fail
            obtain ⟨u1, u2, u3, u4, ⟨d1, f1⟩, ⟨d2, f2⟩, ⟨d3, f3⟩, ⟨d4, f4⟩⟩ := R3.ready (k := q + 1) (by omega) y
            have R4 := Lib.hid (R3.st4 (k := q + 1) (by omega) y)
            obtain ⟨z1, z2, z3, z4, ⟨d5, f5⟩, ⟨d6, f6⟩, ⟨d7, f7⟩, ⟨d8, f8⟩⟩ := R4.out.ready (k := q) (by omega) x
            have R5 := Lib.hid (R4.out.st4 (k := q) (by omega) x)
            have gl3 := R3.lt.1
            obtain ⟨p1, p2, p3, p4, r1, r2, r3, r4, -⟩ := AE'.out _ T3
            unfold st4 at d5 f5 d6 f6 d7 f7 d8 f8
            clear R3 d1 CC
            obtain ⟨x1, x2, x3, xA, xn, xc, xs⟩ := x
            obtain ⟨y1, y2, y3, yA, yn, yc, ys⟩ := y
            simp only at d2 f2 d3 f3 d4 f4 d5 f5 d6 f6 d7 f7 d8 f8 p1 p2 p3 p4 r1 r2 r3 r4 hd1 hd2 hde
            go_region_law (fail)
            all_goals
              go_wp2_with fail
              go_roundw
              case rel =>
                refine ⟨S1', ⟨y1, y2, y3, yA, yn, yc, ys⟩ :: S2, vi (by have := HQ.out; omega), hSS', fun z hz => ?_, ?_, ((hT3'.trans (turn_st4 w3 g ((q + 1) * 4) ⟨y1, y2, y3, yA, yn, yc, ys⟩)).trans (turn_st4 _ g (q * 4) ⟨x1, x2, x3, xA, xn, xc, xs⟩)).drew⟩
                · rcases List.mem_cons.1 hz with rfl | hz
                  · exact hd1
                  · exact HS2.out z hz
                · rw [← HSW.out]
                  exact R5.out.turn ((Turn.refl [] _).drew) (by simp)
              case measure => simp [intOf]; have := HQ.out; omega
          · have hde : decide (x.due - y.due < 0) = false := by simpa using hd2
            go_wp2_with fail
            go_roundw
            case rel =>
              refine ⟨k + 1, by omega, vi (by omega), .inl (by omega), ?_, hT3'⟩
              have hins := ins_between (f := Ml.due) x S2 HS2.out (S1' ++ [y]) (fun z hz => by
                rcases List.mem_append.1 hz with hz | hz
                · have := HYL.out z hz; omega
                · simp at hz; subst hz; omega)
              rw [HST.out, hSS'.out, show S1' ++ y :: S2 = (S1' ++ [y]) ++ S2 by simp, hins]
              have e := HXe.out
              rw [show P ++ ((S1' ++ [y] ++ x :: S2 ++ U.drop (k + 1)) ++ Q) = P ++ (((S1' ++ [y]) ++ x :: (S2 ++ U.drop (k + 1))) ++ Q) by simp, e]
              exact R3
            case measure => simp [intOf]; omega
    · obtain hk : k = nu ∨ (nu = 0 ∧ k = 1) := by omega
      have i1 : ¬ (a : Int) + (k : Int) < (a : Int) + (nu : Int) := by omega
      have hU : U.take k = U ∧ U.drop k = [] := ⟨List.take_of_length_le (by have := HNU.out; omega), List.drop_of_length_le (by have := HNU.out; omega)⟩
      rw [hU.1, hU.2, List.append_nil] at R
      clear hU
      go_wp2_with fail
      go_end0
      exact ⟨rfl, R, hT⟩
end Go.Proofs.Ytiijgokgojjocaa
