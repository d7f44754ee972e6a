/- Hints as a row; the contract of (*Hints).offer. -/
import Derived.Test.YtpdencmgjihnfaaCs
import Derived.Test.YtpdencmgjihnfaaOwn
import Derived.Test.YtpdencmgjihnfaaTake
namespace Go.Proofs.Ytpdencmgjihnfaa
open Go.RowKit Go.ChangeMaps

/-- Block h is Hints: own claims, a Quotas (block q, its map bm), and the claims wl that wait, in the slice A. -/
structure HIs (w : World) (h q bm : Nat) (own : C4) (times : Int) (m : List (Int × Int × Int)) (base : Nat) (A : Option Addr) (n cap : Nat) (wl : List C4) : Prop where
  blk : Blk w h 68 #[.pointer (some ⟨q, 0, none⟩), .int .i64 own.1, .int .i64 own.2.1, .int .i64 own.2.2.1, .int .i64 own.2.2.2, .slice A n cap]
  qs : QIs w q bm times m
  row : w.ownsRow base 29 4 (.slice A n cap) n (ccs wl)
  len : wl.length = n
  le : n ≤ 16
  ne : h ≠ q ∧ h ≠ bm
  lo : h < base ∧ q < base ∧ bm < base ∧ base ≤ w.heap.size
theorem HIs.turn {w w' : World} {h q bm : Nat} {own : C4} {times : Int} {m : List (Int × Int × Int)} {base : Nat} {A : Option Addr} {n cap : Nat} {wl : List C4} {S : List Nat} (H : HIs w h q bm own times m base A n cap wl) (hT : Turn S w w')
    (h1 : h ∉ S) (h2 : q ∉ S) (h3 : bm ∉ S) (h4 : ∀ i ∈ blks A, i ∉ S) : HIs w' h q bm own times m base A n cap wl :=
  ⟨hT.blk H.blk h1, H.qs.turn hT h2 h3, own_turnA H.row hT h4, H.len, H.le, H.ne, H.lo.1, H.lo.2.1, H.lo.2.2.1, Nat.le_trans H.lo.2.2.2 hT.size⟩

theorem HIs.cells {w : World} {h q bm : Nat} {o1 o2 o3 o4 : Int} {times : Int} {m : List (Int × Int × Int)} {base : Nat} {A : Option Addr} {n cap : Nat} {wl : List C4} (H : HIs w h q bm (o1, o2, o3, o4) times m base A n cap wl) :
    w.cell? ⟨h, 0, none⟩ = some (.pointer (some ⟨q, 0, none⟩)) ∧ w.cell? ⟨h, 1, none⟩ = some (.int .i64 o1) ∧ w.cell? ⟨h, 2, none⟩ = some (.int .i64 o2) ∧ w.cell? ⟨h, 3, none⟩ = some (.int .i64 o3) ∧ w.cell? ⟨h, 4, none⟩ = some (.int .i64 o4) ∧ w.cell? ⟨h, 5, none⟩ = some (.slice A n cap) ∧ h < w.heap.size :=
  ⟨H.blk.cell 0, H.blk.cell 1, H.blk.cell 2, H.blk.cell 3, H.blk.cell 4, H.blk.cell 5, H.blk.lt⟩
theorem claim_cells {w : World} {cb : Nat} {c1 c2 c3 c4 : Int} (hc : Blk w cb 29 #[.int .i64 c1, .int .i64 c2, .int .i64 c3, .int .i64 c4]) :
    w.cell? ⟨cb, 0, none⟩ = some (.int .i64 c1) ∧ w.cell? ⟨cb, 1, none⟩ = some (.int .i64 c2) ∧ w.cell? ⟨cb, 2, none⟩ = some (.int .i64 c3) ∧ w.cell? ⟨cb, 3, none⟩ = some (.int .i64 c4) ∧ cb < w.heap.size := ⟨hc.cell 0, hc.cell 1, hc.cell 2, hc.cell 3, hc.lt⟩

/-- offer's answer, and what is let behind it. -/
def offE (own : C4) (wl : List C4) (m : List (Int × Int × Int)) (times s t : Int) (c : C4) : Int × List (Int × Int × Int) :=
  if ¬ Right c then (10, m) else if c.1 = own.1 ∨ c.1 = s then (1, m) else if c.2.2.1 ≤ t then (9, m) else if wl.any (fun x => x.1 == c.1) then (8, m) else if wl.length = 16 then (6, m) else qtake m times s t

theorem same_c (cb : Nat) (c1 c2 c3 c4 x1 x2 x3 x4 : Int) (w : World) (hc : Blk w cb 29 #[.int .i64 c1, .int .i64 c2, .int .i64 c3, .int .i64 c4]) :
    Calls Try.prog 38 #[.agg #[.int .i64 x1, .int .i64 x2, .int .i64 x3, .int .i64 x4], .pointer (some ⟨cb, 0, none⟩)] w fun e w' => e = .returned (.bool (x1 == c1)) ∧ Turn [] w w' := by
  have q0 := hc.cell 0
  have hl := hc.lt
  go_enter Try.func38, Try.ntmps38
  go_wp2_with fail
  go_ret
  exact ⟨by simp, (Turn.refl _ _).alloc _⟩

set_option maxRecDepth 100000 in
set_option maxHeartbeats 1000000 in
theorem offer_c (h q bm : Nat) (own : C4) (times : Int) (m : List (Int × Int × Int)) (base : Nat) (A : Option Addr) (n cap : Nat) (wl : List C4) (s t c1 c2 c3 c4 : Int) (w : World) (H : HIs w h q bm own times m base A n cap wl) (ht : t ≤ 9223372036854775807) :
    Calls Try.prog 28 #[.pointer (some ⟨h, 0, none⟩), .int .i64 s, .int .i64 t, .agg #[.int .i64 c1, .int .i64 c2, .int .i64 c3, .int .i64 c4]] w fun e w' =>
      e = .returned (.int .i64 (offE own wl m times s t (c1, c2, c3, c4)).1) ∧ HIs w' h q bm own times (offE own wl m times s t (c1, c2, c3, c4)).2 base A n cap wl ∧ Turn [bm] w w' := by
  have H0 := Lib.hid H
  have hmf : ∀ (fn : Fn) (first cap : Array Value) (w : World), (Instr.makeFunc fn first cap).run Try.prog w = .ok (.func fn first cap) w := fun _ _ _ _ => rfl
  obtain ⟨o1, o2, o3, o4⟩ := own
  obtain ⟨b0, b1, b2, b3, b4, b5, hl⟩ := H.cells
  have ⟨hn1, hn2⟩ := H.ne
  have ⟨l1, l2, l3, l4⟩ := H.lo
  have hle := H.le
  have HL := Lib.hid H.len
  clear H
  by_cases hr : Right (c1, c2, c3, c4)
  · have hE : Hid (checkE (c1, c2, c3, c4) = 0) := by show checkE _ = _; unfold checkE; rw [if_pos hr]
    have hv : Hid (offE (o1, o2, o3, o4) wl m times s t (c1, c2, c3, c4) = if c1 = o1 ∨ c1 = s then (1, m) else if c3 ≤ t then (9, m) else if wl.any (fun x => x.1 == c1) then (8, m) else if wl.length = 16 then (6, m) else qtake m times s t) := by
      show offE _ _ _ _ _ _ _ = _
      unfold offE
      rw [if_neg (by simpa using hr)]
    generalize offE (o1, o2, o3, o4) wl m times s t (c1, c2, c3, c4) = V at *
    clear hr
    go_enter Try.func28, Try.ntmps28
    go_wp2_with fail
    refine (check_c c1 c2 c3 c4 _).mono ?_
    rw [hE.out]
    rintro e w1 ⟨rfl, hT1⟩
    clear b0 b1 b2 b3 b4 b5 hl
    have T1 := ((Turn.refl [] w).alloc (.cells #[.int .i64 c1, .int .i64 c2, .int .i64 c3, .int .i64 c4] 29)).trans hT1
    obtain ⟨b0, b1, b2, b3, b4, b5, hl⟩ := (H0.out.turn T1 (by simp) (by simp) (by simp) (by simp)).cells
    have K1 := hT1.blk (Blk.new w 29 #[.int .i64 c1, .int .i64 c2, .int .i64 c3, .int .i64 c4]) (by simp)
    obtain ⟨k0, k1, k2, k3, kl⟩ := claim_cells K1
    go_wp2_with fail
    refine (same_c w.heap.size c1 c2 c3 c4 o1 o2 o3 o4 _ K1).mono ?_
    rintro e w2 ⟨rfl, hT2⟩
    clear b0 b1 b2 b3 b4 b5 hl k0 k1 k2 k3 kl
    have T2 := T1.trans hT2
    obtain ⟨b0, b1, b2, b3, b4, b5, hl⟩ := (H0.out.turn T2 (by simp) (by simp) (by simp) (by simp)).cells
    have K2 := hT2.blk K1 (by simp)
    obtain ⟨k0, k1, k2, k3, kl⟩ := claim_cells K2
    by_cases a1 : o1 = c1
    · have hv1 : Hid (V = (1, m)) := by show V = _; rw [hv.out, if_pos (.inl a1.symm)]
      have a1' : (o1 == c1) = true := by simpa using a1
      clear a1
      go_wp2_with fail
      go_ret
      exact ⟨by rw [hv1.out]; simp, by rw [hv1.out]; exact H0.out.turn T2 (by simp) (by simp) (by simp) (by simp), T2.mono (by simp)⟩
    have a1' : (o1 == c1) = false := by simpa using a1
    by_cases a2 : c1 = s
    · have hv1 : Hid (V = (1, m)) := by show V = _; rw [hv.out, if_pos (.inr a2)]
      have a2' : (c1 == s) = true := by simpa using a2
      clear a1 a2
      go_wp2_with fail
      go_ret
      exact ⟨by rw [hv1.out]; simp, by rw [hv1.out]; exact H0.out.turn T2 (by simp) (by simp) (by simp) (by simp), T2.mono (by simp)⟩
    have a2' : (c1 == s) = false := by simpa using a2
    have hv2 : Hid (V = if c3 ≤ t then (9, m) else if wl.any (fun x => x.1 == c1) then (8, m) else if wl.length = 16 then (6, m) else qtake m times s t) := by
      show V = _
      rw [hv.out, if_neg (fun h => h.elim (fun h => a1 h.symm) a2)]
    clear a1 a2 hv
    go_wp2_with fail
    refine (expired_c c1 c2 c3 c4 t _).mono ?_
    rintro e w3 ⟨rfl, hT3⟩
    clear b0 b1 b2 b3 b4 b5 hl k0 k1 k2 k3 kl
    have T3 := T2.trans hT3
    obtain ⟨b0, b1, b2, b3, b4, b5, hl⟩ := (H0.out.turn T3 (by simp) (by simp) (by simp) (by simp)).cells
    have K3 := hT3.blk K2 (by simp)
    by_cases a3 : c3 ≤ t
    · have hv1 : Hid (V = (9, m)) := by show V = _; rw [hv2.out, if_pos a3]
      go_wp2_with fail
      go_ret
      exact ⟨by rw [hv1.out]; simp, by rw [hv1.out]; exact H0.out.turn T3 (by simp) (by simp) (by simp) (by simp), T3.mono (by simp)⟩
    have hv3 : Hid (V = if wl.any (fun x => x.1 == c1) then (8, m) else if wl.length = 16 then (6, m) else qtake m times s t) := by
      show V = _
      rw [hv2.out, if_neg a3]
    clear hv2
    go_wp2_with fail
    have S3 := (Sl.of_own H0.out.row).turn0 T3
    refine (containsF_c 38 (.pointer (some ⟨w.heap.size, 0, none⟩)) (fun x => x.1 == c1) A n cap wl _ S3 HL.out (by omega) enter38 (fun wz hz x1 x2 x3 x4 => same_c w.heap.size c1 c2 c3 c4 x1 x2 x3 x4 wz (hz.blk K3 (by simp)))).mono ?_
    rintro e w4 ⟨rfl, hT4⟩
    clear b0 b1 b2 b3 b4 b5 hl
    have T4 := T3.trans hT4
    obtain ⟨b0, b1, b2, b3, b4, b5, hl⟩ := (H0.out.turn T4 (by simp) (by simp) (by simp) (by simp)).cells
    cases hany : wl.any (fun x => x.1 == c1) with
    | true =>
      have hv1 : Hid (V = (8, m)) := by show V = _; rw [hv3.out, if_pos hany]
      clear hany
      go_wp2_with fail
      go_ret
      exact ⟨by rw [hv1.out]; simp, by rw [hv1.out]; exact H0.out.turn T4 (by simp) (by simp) (by simp) (by simp), T4.mono (by simp)⟩
    | false =>
      have hv4 : Hid (V = if wl.length = 16 then (6, m) else qtake m times s t) := by
        show V = _
        rw [hv3.out, if_neg (by rw [hany]; simp)]
      clear hv3 hany
      by_cases a5 : n = 16
      · have hv1 : Hid (V = (6, m)) := by show V = _; rw [hv4.out, if_pos (by rw [HL.out]; exact a5)]
        subst a5
        go_wp2_with fail
        go_ret
        exact ⟨by rw [hv1.out]; simp, by rw [hv1.out]; exact H0.out.turn T4 (by simp) (by simp) (by simp) (by simp), T4.mono (by simp)⟩
      · have hv1 : Hid (V = qtake m times s t) := by show V = _; rw [hv4.out, if_neg (by rw [HL.out]; exact a5)]
        have a5' : ((n : Int) == 16) = false := by simp; omega
        have H4 := H0.out.turn T4 (by simp) (by simp) (by simp) (by simp)
        have TK := Lib.hid (take_c q bm times m s t w4 H4.qs ht)
        clear hv4
        go_wp2_with fail
        refine TK.out.mono ?_
        rw [← hv1.out]
        rintro e w5 ⟨rfl, hq5, hT5⟩
        go_wp2_with fail
        go_ret
        exact ⟨by simp, ⟨hT5.blk H4.blk (by simp; omega), hq5, own_turnA H4.row hT5 (fun i hi => by have := (own_ltA H4.row i hi).2; simp; omega), H4.len, H4.le, H4.ne, H4.lo.1, H4.lo.2.1, H4.lo.2.2.1, Nat.le_trans H4.lo.2.2.2 hT5.size⟩, (T4.mono (by simp)).trans hT5⟩
  · have hE : Hid (checkE (c1, c2, c3, c4) = 10) := by show checkE _ = _; unfold checkE; rw [if_neg hr]
    have hv : Hid (offE (o1, o2, o3, o4) wl m times s t (c1, c2, c3, c4) = (10, m)) := by
      show offE _ _ _ _ _ _ _ = _
      unfold offE
      rw [if_pos (by simpa using hr)]
    generalize offE (o1, o2, o3, o4) wl m times s t (c1, c2, c3, c4) = V at *
    clear hr
    go_enter Try.func28, Try.ntmps28
    go_wp2_with fail
    refine (check_c c1 c2 c3 c4 _).mono ?_
    rw [hE.out]
    rintro e w1 ⟨rfl, hT1⟩
    go_wp2_with fail
    go_ret
    have T := ((Turn.refl [] w).alloc (.cells #[.int .i64 c1, .int .i64 c2, .int .i64 c3, .int .i64 c4] 29)).trans hT1
    exact ⟨by rw [hv.out]; simp, by rw [hv.out]; exact H0.out.turn T (by simp) (by simp) (by simp) (by simp), T.mono (by simp)⟩
end Go.Proofs.Ytpdencmgjihnfaa
