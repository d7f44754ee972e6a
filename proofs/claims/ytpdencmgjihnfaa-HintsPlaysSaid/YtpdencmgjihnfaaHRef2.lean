/- The document's hints as a row; contracts of its Drop and Offer. -/
import Derived.Test.YtpdencmgjihnfaaHRef
import Derived.Test.YtpdencmgjihnfaaTry
import Derived.Test.YtpdencmgjihnfaaOfferAll
namespace Go.Proofs.Ytpdencmgjihnfaa
open Go.RowKit Go.ChangeMaps

/-- Block g is the document's Hints. -/
structure RefIs (w : World) (g : Nat) (own : C4) (times : Int) (A : Option Addr) (n cap : Nat) (wl : List C4) (L : Option Addr) (nl cl : Nat) (T : TL) : Prop where
  blk : Blk w g 48 #[.int .i64 own.1, .int .i64 own.2.1, .int .i64 own.2.2.1, .int .i64 own.2.2.2, .int .i64 times, .slice A n cap, .slice L nl cl]
  ws : Sl w A (ccs wl)
  wn : wl.length = n
  wc : n ≤ cap
  ls : Sl w L (tcs T)
  ln : T.length = nl
  offA : g ∉ blks A
  offL : g ∉ blks L
theorem RefIs.turn {w w' : World} {g : Nat} {own : C4} {times : Int} {A : Option Addr} {n cap : Nat} {wl : List C4} {L : Option Addr} {nl cl : Nat} {T : TL} {S : List Nat} (R : RefIs w g own times A n cap wl L nl cl T) (hT : Turn S w w') (h1 : g ∉ S) (h2 : ∀ i ∈ blks A, i ∉ S) (h3 : ∀ i ∈ blks L, i ∉ S) :
    RefIs w' g own times A n cap wl L nl cl T :=
  ⟨hT.blk R.blk h1, R.ws.turn hT (off_blks h2), R.wn, R.wc, R.ls.turn hT (off_blks h3), R.ln, R.offA, R.offL⟩
theorem RefIs.cells {w : World} {g : Nat} {o1 o2 o3 o4 : Int} {times : Int} {A : Option Addr} {n cap : Nat} {wl : List C4} {L : Option Addr} {nl cl : Nat} {T : TL} (R : RefIs w g (o1, o2, o3, o4) times A n cap wl L nl cl T) :
    w.cell? ⟨g, 0, none⟩ = some (.int .i64 o1) ∧ w.cell? ⟨g, 4, none⟩ = some (.int .i64 times) ∧ w.cell? ⟨g, 5, none⟩ = some (.slice A n cap) ∧ w.cell? ⟨g, 6, none⟩ = some (.slice L nl cl) ∧ g < w.heap.size :=
  ⟨R.blk.cell 0, R.blk.cell 4, R.blk.cell 5, R.blk.cell 6, R.blk.lt⟩

def zr : Value := .agg #[.int .i64 0, .int .i64 0, .int .i64 0, .int .i64 0]
theorem infoR : (Try.prog.info? 37).map (fun i => (i.zero, i.size, i.bytes)) = some (some zr, 4, 32) := by kernel_rfl
theorem elemR : ElemT Try.prog 33 37 zr 4 32 := ⟨Try.underlying33, info_parts infoR, rfl, by decide⟩

theorem c4_ne {y1 y2 y3 y4 x1 x2 x3 x4 : Int} (hp : ((y1, y2, y3, y4) == (x1, x2, x3, x4)) = false) : y1 ≠ x1 ∨ (y1 = x1 ∧ y2 ≠ x2) ∨ (y1 = x1 ∧ y2 = x2 ∧ y3 ≠ x3) ∨ (y1 = x1 ∧ y2 = x2 ∧ y3 = x3 ∧ y4 ≠ x4) := by
  have : ¬ (y1 = x1 ∧ y2 = x2 ∧ y3 = x3 ∧ y4 = x4) := by simpa using hp
  by_cases e1 : y1 = x1
  · by_cases e2 : y2 = x2
    · by_cases e3 : y3 = x3
      · exact .inr (.inr (.inr ⟨e1, e2, e3, fun e4 => this ⟨e1, e2, e3, e4⟩⟩))
      · exact .inr (.inr (.inl ⟨e1, e2, e3⟩))
    · exact .inr (.inl ⟨e1, e2⟩)
  · exact .inl e1

def Dropped (w : World) (g : Nat) (own : C4) (times : Int) (n : Nat) (wl : List C4) (L : Option Addr) (nl cl : Nat) (T : TL) (e : Ending) (w' : World) : Prop := ∃ A' n' cap',
  e = .returned (.bool (decide (n' < n))) ∧ RefIs w' g own times A' n' cap' wl L nl cl T ∧ (∀ i ∈ blks A', w.heap.size ≤ i ∧ i < w'.heap.size) ∧ Turn [g] w w'
set_option maxRecDepth 100000 in
set_option maxHeartbeats 2000000 in
theorem refDrop_c (g : Nat) (own : C4) (times : Int) (A : Option Addr) (n cap : Nat) (wl : List C4) (L : Option Addr) (nl cl : Nat) (T : TL) (x1 x2 x3 x4 : Int) (w : World) (R : RefIs w g own times A n cap wl L nl cl T) (hl : n ≤ 1000000) :
    Calls Try.prog 17 #[.pointer (some ⟨g, 0, none⟩), .agg #[.int .i64 x1, .int .i64 x2, .int .i64 x3, .int .i64 x4]] w (Dropped w g own times n (wl.filter (fun y => y != (x1, x2, x3, x4))) L nl cl T) := by
  obtain ⟨o1, o2, o3, o4⟩ := own
  have HN := Lib.hid R.wn
  have HR := Lib.hid R
  clear R
  go_enter Try.func17, Try.ntmps17
  go_wp2_with fail
  have TX := (Turn.refl [] w).alloc (.cells #[.int .i64 x1, .int .i64 x2, .int .i64 x3, .int .i64 x4] 37)
  have BX := Blk.new w 37 #[.int .i64 x1, .int .i64 x2, .int .i64 x3, .int .i64 x4]
  generalize hwA : w.alloc (.cells #[.int .i64 x1, .int .i64 x2, .int .i64 x3, .int .i64 x4] 37) = wA at *
  have zA : wA.heap.size = w.heap.size + 1 := by rw [← hwA]; simp
  clear hwA
  go_loopw [5, 6] (fun out i wr => ∃ k : Nat, k ≤ n ∧ i = .int .i64 k ∧ ∃ D nd cd, out = .slice D nd cd ∧ nd ≤ k ∧ wr.ownsRow (w.heap.size + 1) 37 4 (.slice D nd cd) nd (ccs ((wl.take k).filter (fun y => y != (x1, x2, x3, x4)))) ∧ Turn [] wA wr) (fun _ i _ => n - (intOf i).toNat)
  case atStart => exact ⟨0, Nat.zero_le _, rfl, none, 0, 0, rfl, by omega, World.ownsRow_nil _ _ _ _, Turn.refl _ _⟩
  case round =>
    obtain ⟨k, hk, rfl, D, nd, cd, rfl, hnd, ho, hT⟩ := hrel
    have i0 : (0 : Int) ≤ (k : Int) := Int.natCast_nonneg _
    have R2 := Lib.hid (HR.out.turn (TX.trans hT) (by simp) (by simp) (by simp))
    obtain ⟨a0, a4, a5, a6, al⟩ := R2.out.cells
    have B := hT.blk BX (by simp)
    have z0 := B.cell 0
    have z1 := B.cell 1
    have z2 := B.cell 2
    have z3 := B.cell 3
    have bl := B.lt
    have hzz := hT.size
    by_cases hlt : k < n
    · have kx : k < wl.length := by rw [HN.out]; exact hlt
      have i1 : (k : Int) < (n : Int) := by omega
      obtain ⟨b1, o1', rfl, l1, c0, c1, c2, c3⟩ := ccs_at R2.out.ws kx
      have hst : Hid ((wl.take (k + 1)).filter (fun y => y != (x1, x2, x3, x4)) = (wl.take k).filter (fun y => y != (x1, x2, x3, x4)) ++ (if wl[k] == (x1, x2, x3, x4) then [] else [wl[k]])) := by
        show _ = _
        rw [List.take_succ_eq_append_getElem kx, List.filter_append]
        congr 1
        by_cases h : wl[k] = (x1, x2, x3, x4) <;> simp [h]
      have hD := own_ltA ho
      cases hp : (wl[k] == (x1, x2, x3, x4)) with
      | true =>
        have hv : Hid ((wl.take (k + 1)).filter (fun y => y != (x1, x2, x3, x4)) = (wl.take k).filter (fun y => y != (x1, x2, x3, x4))) := by show _ = _; rw [hst.out, if_pos hp, List.append_nil]
        have he : wl[k] = (x1, x2, x3, x4) := by simpa using hp
        rw [he] at c0 c1 c2 c3
        clear hp he
        go_wp2_with fail
        go_quiet (fail)
        go_wp2_with fail
        go_roundw
        case rel => exact ⟨k + 1, by omega, by go_num, D, nd, cd, rfl, by omega, by rw [hv.out]; exact own_turnA ho ((Turn.refl [] wr).drewN _) (by simp), hT.drewN _⟩
        case measure => simp [intOf]; omega
      | false =>
        have hv : Hid ((wl.take (k + 1)).filter (fun y => y != (x1, x2, x3, x4)) = (wl.take k).filter (fun y => y != (x1, x2, x3, x4)) ++ [wl[k]]) := by show _ = _; rw [hst.out, if_neg (by rw [hp]; simp)]
        clear hst
        generalize wl[k] = y at *
        obtain ⟨y1, y2, y3, y4⟩ := y
        simp only at c0 c1 c2 c3
        rcases c4_ne hp with h1 | ⟨rfl, h1⟩ | ⟨rfl, rfl, h1⟩ | ⟨rfl, rfl, rfl, h1⟩
        all_goals
          have h2 := Ne.symm h1
          clear hp
          go_wp2_with fail
          go_quiet (fail)
          have ho3 := own_turnA ho ((Turn.refl [] wr).drewN nq) (by simp)
          have hT3 := hT.drewN nq
          have r5 := (R2.out.turn ((Turn.refl [] wr).drewN nq) (by simp) (by simp) (by simp)).cells.2.2.1
          go_wp2_with (at_builtin; go_must (refine wpList_append_sl elemR rfl _ _ rfl D nd cd _ rfl (ho3.alloc _) (some ⟨wr.heap.size, 0, none⟩) 1 1 [.int .i64 y1, .int .i64 y2, .int .i64 y3, .int .i64 y4] rfl (Sl.new _ #[.int .i64 y1, .int .i64 y2, .int .i64 y3, .int .i64 y4] _) (by simp) (by simp [Value.oneCell']) (by omega) (by omega) (by simp; omega) ?_); intro D2 cd2 w3 own3 hg3 hlie3)
          go_roundw
          case rel => exact ⟨k + 1, by omega, by go_num, D2, nd + 1, cd2, rfl, by omega, by rw [hv.out, ccs_append]; exact own3, (hT3.alloc _).andThen (grown_turn hg3) (fun i hi => .inr (by have := (hD i hi).2; omega))⟩
          case measure => simp [intOf]; omega
    · obtain rfl : k = n := by omega
      have i1 : ¬ (k : Int) < (k : Int) := by omega
      rw [List.take_of_length_le (by rw [HN.out]; exact Nat.le_refl _)] at ho
      have f5 := R2.out.blk.frozen 5
      have hD := own_ltA ho
      have hnn : (decide ((nd : Int) < (k : Int))) = decide (nd < k) := by simp
      go_wp2_with fail
      go_ret
      have Tg : Turn [g] wr (wr.setCell ⟨g, 5, none⟩ (.slice D nd cd)) := (Turn.refl [g] wr).setCell (.inl (by simp)) _
      have hgw := HR.out.blk.lt
      have hDg : g ∉ blks D := fun hm => by have := (hD g hm).2; omega
      have hdl := ho.1
      rw [ccs_len] at hdl
      refine ⟨D, nd, cd, by simp, ⟨?_, (Sl.of_own ho).turn Tg (off_blks (fun i hi hm => hDg (by simp at hm; rw [← hm]; exact hi))), by omega, (own_caps ho).1, R2.out.ls.turn Tg (off_blks (fun i hi hm => R2.out.offL (by simp at hm; rw [← hm]; exact hi))), R2.out.ln, hDg, R2.out.offL⟩, fun i hi => by have := hD i hi; have := Tg.size; omega, ((TX.trans hT).mono (by simp)).trans Tg⟩
      simpa using R2.out.blk.set_ 5 (.slice D nd cd)
end Go.Proofs.Ytpdencmgjihnfaa
