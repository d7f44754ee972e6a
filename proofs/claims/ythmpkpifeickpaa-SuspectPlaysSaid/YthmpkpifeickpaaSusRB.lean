/- The contract of vigilref22.Begin; of (*Probes).Since. -/
import Derived.Test.YthmpkpifeickpaaSusR
namespace Go.Proofs.Ythmpkpifeickpaa
open Go.RowKit Go.ChangeMaps Go.MapKept
open Go.Maps (Keyed int_keyed keyOf_int_mk)

theorem since_c (p : Nat) (mb : Option Nat) (m : PM) (id : Int) (w : World) (h : PIs w p mb m) (wf : (Lit.int .i64 id).wf = true) :
    Calls Try.prog 16 #[.pointer (some ⟨p, 0, none⟩), .int .i64 id] w fun e w' => e = .returned (.tuple #[.int .i64 ((kget m id).getD (0, false)).1, .bool (kget m id).isSome]) ∧ Turn [] w w' := by
  have c0 := h.blk.cell 0
  have hl := h.blk.lt
  cases mb with
  | none =>
    have hm := h.nil rfl
    subst hm
    have hlk := lookup_nilP id wf
    clear h
    go_enter Try.func16, Try.ntmps16
    go_wp2_with fail
    go_ret2
    exact ⟨by simp [kget], (Turn.refl _ _).alloc _⟩
  | some b =>
    obtain ⟨hpb, es, clock, h2, h3⟩ := h.map b rfl
    have L := h3.look_ok Try.underlying3 Try.underlying23 zeroPr wf w b h2
    rw [kget_kv] at L
    have hx : ((kget m id).map pv).getD (pv (0, false)) = pv ((kget m id).getD (0, false)) := by cases kget m id <;> rfl
    have hs : ((kget m id).map pv).isSome = (kget m id).isSome := by cases kget m id <;> rfl
    rw [hx, hs] at L
    generalize hg : (kget m id).getD (0, false) = x at *
    generalize hg2 : (kget m id).isSome = bb at *
    have HG := Lib.hid hg
    have HG2 := Lib.hid hg2
    obtain ⟨x1, x2⟩ := x
    simp only [pv] at L
    clear h h2 h3 hg hg2 hx hs
    go_enter Try.func16, Try.ntmps16
    go_wp2_with fail
    go_ret2
    exact ⟨by simp, (Turn.refl _ _).alloc _⟩

/-- How many are ahead of an identity. -/
def atI : PM → Int → Nat
  | [], _ => 0
  | y :: r, id => if y.1 < id then atI r id + 1 else 0
theorem kins_at (x : Int × Int × Bool) : ∀ l : PM, (∀ y ∈ l, y.1 ≠ x.1) → kins x l = l.take (atI l x.1) ++ x :: l.drop (atI l x.1)
  | [], _ => rfl
  | y :: r, h => by
    have hy := h y (by simp)
    unfold kins atI
    by_cases hlt : x.1 < y.1
    · rw [if_pos hlt, if_neg (by omega)]
      rfl
    · rw [if_neg hlt, if_pos (by omega), kins_at x r (fun z hz => h z (by simp [hz]))]
      rfl
theorem kput_at {m : PM} {id : Int} (v : Int × Bool) (h : kget m id = none) : kput m id v = m.take (atI m id) ++ (id, v) :: m.drop (atI m id) := by
  have e : m.filter (fun p => p.1 != id) = m := by
    apply List.filter_eq_self.2
    intro y hy
    simpa using (kget_none.1 h y hy)
  unfold kput
  rw [e]
  exact kins_at (id, v) m (kget_none.1 h)
theorem atI_le : ∀ (l : PM) (id : Int), atI l id ≤ l.length
  | [], _ => Nat.le_refl _
  | y :: r, id => by
    have := atI_le r id
    unfold atI
    split <;> simp
    omega
theorem atI_lt : ∀ {l : PM} {id : Int} {k : Nat} (hl : k < l.length), k < atI l id → l[k].1 < id
  | y :: r, id, 0, hl, hk => by
    unfold atI at hk
    split at hk
    · assumption
    · omega
  | y :: r, id, k + 1, hl, hk => by
    unfold atI at hk
    split at hk
    · exact atI_lt (l := r) (by simpa using hl) (by omega)
    · omega
theorem atI_end : ∀ {l : PM} {id : Int} (hl : atI l id < l.length), ¬ (l[atI l id]).1 < id
  | y :: r, id, hl => by
    by_cases h : y.1 < id
    · have e : atI (y :: r) id = atI r id + 1 := by simp [atI, h]
      simp only [e, List.getElem_cons_succ]
      exact atI_end (l := r) (by rw [e] at hl; simpa using hl)
    · have e : atI (y :: r) id = 0 := by simp [atI, h]
      simp only [e, List.getElem_cons_zero]
      exact h
def midS (A : Option Addr) (c l sz : Nat) : Option Addr := if c = l then A else A.map (·.add (l * sz))
theorem run_slice_tail {P : Program} {t e : TypeId} {i : TypeInfo} {sz : Nat} (ht : P.underlying t = some (.slice e)) (hi : P.info? e = some i) (hsz : i.size = sz) (w : World) (a : Option Addr) (n c l : Nat) (k : IntKind) (h1 : l ≤ n) (h3 : n ≤ c) :
    (Instr.slice t (.slice a n c) (some (.int k (l : Int))) none none).run P w = .ok (.slice (midS a c l sz) (n - l) (c - l)) w := by
  have e2 : (l : Int) ≤ (n : Int) := by omega
  have e3 : (n : Int) ≤ (c : Int) := by omega
  simp [Instr.slice, run_underlying ht, Instr.sliceBounds, Instr.sliceBound, asIntOf, e2, e3, sizeOf, typeInfo, hi, hsz, midS]
  intro hh
  omega
theorem pcs_drop : ∀ (l : PM) (k : Nat), (pcs l).drop (k * 3) = pcs (l.drop k)
  | [], k => by simp [pcs]
  | c :: r, 0 => rfl
  | c :: r, k + 1 => by
    rw [show (k + 1) * 3 = k * 3 + 3 by omega]
    exact pcs_drop r k
theorem Sl.tail {w : World} {A : Option Addr} {l : PM} {c k : Nat} (h : Sl w A (pcs l)) (hc : l.length ≤ c) : Sl w (midS A c k 3) (pcs (l.drop k)) := fun hpos => by
  have hl : k < l.length := by rw [pcs_len, List.length_drop] at hpos; omega
  obtain ⟨b, off, rfl, hb, hcell⟩ := h (by rw [pcs_len]; omega)
  have hne : c ≠ k := by omega
  refine ⟨b, off + k * 3, by simp [midS, hne, WideShapes.add_plain], hb, fun j u hu => ?_⟩
  rw [← pcs_drop, List.getElem?_drop] at hu
  rw [show off + k * 3 + j = off + (k * 3 + j) by omega]
  exact hcell _ u hu
theorem pcs_take : ∀ (l : PM) (k : Nat), (pcs l).take (k * 3) = pcs (l.take k)
  | [], k => by simp [pcs]
  | c :: r, 0 => rfl
  | c :: r, k + 1 => by
    rw [show (k + 1) * 3 = k * 3 + 3 by omega]
    have := pcs_take r k
    simp only [pcs, List.take_succ_cons, this]

set_option maxRecDepth 100000 in
set_option maxHeartbeats 1000000 in
theorem rbegin_ok (A : Option Addr) (n c : Nat) (l : PM) (id t : Int) (w : World) (hx : Sl w A (pcs l)) (hn : l.length = n) (hc : n ≤ c) (hl : n ≤ 15) (hnone : kget l id = none) (h1 : ¬ id < 1) (h2 : ¬ 65535 < id) (h3 : ¬ t < 0) (h4 : ¬ 1073741824 < t) :
    Calls Try.prog 11 #[.slice A n c, .int .i64 id, .int .i64 t] w fun e w' => ∃ D nd cd, e = .returned (.tuple #[.slice D nd cd, .int .i64 0]) ∧ w'.ownsRow w.heap.size 47 3 (.slice D nd cd) nd (pcs (kput l id (t, false))) ∧ Turn [] w w' := by
  have HN := Lib.hid hn
  have hf : findI l id = -1 := by
    rcases findI_cases l id with ⟨_, h⟩ | ⟨k, hk, a, h, _⟩
    · exact h
    · rw [hnone] at h; cases h
  have FC := Lib.hid (find_c A n c l id w hx hn (by omega))
  rw [hf] at FC
  clear hn hf
  go_enter Try.func11, Try.ntmps11
  go_wp2_with fail
  refine FC.out.mono ?_
  rintro e w1 ⟨rfl, rfl⟩
  go_wp2_with fail
  have hat := atI_le l id
  rw [HN.out] at hat
  have hkp := kput_at (t, false) hnone
  have HKP := Lib.hid hkp
  clear hkp hnone
  generalize hq : atI l id = q at *
  have HQ := Lib.hid hq
  clear hq
  obtain ⟨iP, hiP, -, hsP, -⟩ := elemPr.info
  have HD := fun (w : World) => run_slice_head (P := Try.prog) Try.underlying36 hiP w A n c .i64 (q : Int) (Int.natCast_nonneg _) (by omega)
  have HT := fun (w : World) => run_slice_tail (P := Try.prog) (sz := 3) Try.underlying36 hiP hsP w A n c q .i64 hat hc
  rw [Int.toNat_natCast] at HD
  have shd : Sl w A (pcs (l.take q)) := by have := hx.take (q * 3); rwa [pcs_take] at this
  have stl := hx.tail (k := q) (c := c) (by rw [HN.out]; exact hc)
  have hl1 : (pcs (l.take q)).length = q * 3 := by rw [pcs_len, List.length_take, HN.out]; omega
  have hl2 : (pcs (l.drop q)).length = (n - q) * 3 := by rw [pcs_len, List.length_drop, HN.out]
  have hone1 := Lib.hid (pcs_one (l.take q))
  have hone2 := Lib.hid (pcs_one (l.drop q))
  have HL1 := Lib.hid hl1
  have HL2 := Lib.hid hl2
  have HSH := Lib.hid shd
  have HST := Lib.hid stl
  generalize midS A c q 3 = A3 at *
  have h0 := World.ownsRow_lit (base := w.heap.size) (e := 47) (size := 3) w #[] 0 (Nat.le_refl _) (by simp) rfl
  have H0 := Lib.hid h0
  clear h0 shd stl hl1 hl2 hiP hsP
  go_loop [8] (fun i => ∃ k : Nat, k ≤ q ∧ i = .int .i64 k) (fun i => q - (intOf i).toNat)
  case atStart => exact ⟨0, Nat.zero_le _, rfl⟩
  case round =>
    obtain ⟨k, hk, rfl⟩ := hrel
    have i0 : (0 : Int) ≤ (k : Int) := Int.natCast_nonneg _
    by_cases hlt : k < q
    · have kx : k < l.length := by rw [HN.out]; omega
      have i1 : (k : Int) < (n : Int) := by omega
      obtain ⟨b1, o1, rfl, l1, c0, -, -⟩ := pcs_at hx kx
      have hxk : l[k].1 < id := atI_lt kx (by rw [HQ.out]; exact hlt)
      generalize l[k] = x at *
      go_wp2_with fail
      go_round
      case rel => exact ⟨k + 1, by omega, by go_num⟩
      case measure => simp [intOf]; omega
    · obtain rfl : k = q := by omega
      by_cases hend : k < n
      · have kx : k < l.length := by rw [HN.out]; omega
        have i1 : (k : Int) < (n : Int) := by omega
        obtain ⟨b1, o1, rfl, l1, c0, -, -⟩ := pcs_at hx kx
        have hxk : ¬ l[k].1 < id := by
          have := atI_end (l := l) (id := id) (by rw [HQ.out]; exact kx)
          simpa only [HQ.out] using this
        generalize l[k] = x at *
        have hl1 := HL1.out
        have hl2 := HL2.out
        go_wp2_with (at_builtin; first
          | (refine wpList_append_sl elemPr rfl _ _ rfl _ 0 _ [] rfl H0.out _ k c (pcs (l.take k)) rfl (HSH.out.alloc _) hl1 hone1.out (by omega) (by omega) (by simp) ?_; intro D1 cd1 w1 own1 hg1 hlie1; rw [Nat.zero_add, List.nil_append] at own1; have T1 : Turn [] w w1 := ((Turn.refl [] w).alloc (.cells #[] 47)).andThen (Turn.of_grown (S := [w.heap.size]) hg1 (by simp)) (by simp); have B1 := own_ltA own1; have zz1 := T1.size)
          | (refine wpList_append_sl elemPr rfl _ _ rfl D1 k cd1 (pcs (l.take k)) rfl (own1.alloc _) (some ⟨w1.heap.size, 0, none⟩) 1 1 [.int .i64 id, .int .i64 t, .bool false] rfl (Sl.new _ #[.int .i64 id, .int .i64 t, .bool false] _) (by simp) (by simp [Value.oneCell']) (by omega) (by omega) (by simp; omega) ?_; intro D2 cd2 w2 own2 hg2 hlie2; have T2 : Turn [] w w2 := (T1.alloc _).andThen (grown_turn hg2) (fun i hi => .inr (B1 i hi).2); have B2 := own_ltA own2; have zz2 := T2.size)
          | (go_must (refine wpList_append_sl elemPr rfl _ _ rfl D2 (k + 1) cd2 _ rfl own2 A3 (n - k) (c - k) (pcs (l.drop k)) rfl (HST.out.turn0 T2) hl2 hone2.out (by omega) (by omega) (by omega) ?_); intro D3 cd3 w3 own3 hg3 hlie3))
        go_ret2
        refine ⟨D3, k + 1 + (n - k), cd3, by simp, ?_, T2.andThen (grown_turn hg3) (fun i hi => .inr (B2 i hi).2)⟩
        rw [HKP.out, pcs_append]
        simpa [pcs] using own3
      · have i1 : ¬ (k : Int) < (n : Int) := by omega
        have hl1 := HL1.out
        have hl2 := HL2.out
        go_wp2_with (at_builtin; first
          | (refine wpList_append_sl elemPr rfl _ _ rfl _ 0 _ [] rfl H0.out _ k c (pcs (l.take k)) rfl (HSH.out.alloc _) hl1 hone1.out (by omega) (by omega) (by simp) ?_; intro D1 cd1 w1 own1 hg1 hlie1; rw [Nat.zero_add, List.nil_append] at own1; have T1 : Turn [] w w1 := ((Turn.refl [] w).alloc (.cells #[] 47)).andThen (Turn.of_grown (S := [w.heap.size]) hg1 (by simp)) (by simp); have B1 := own_ltA own1; have zz1 := T1.size)
          | (refine wpList_append_sl elemPr rfl _ _ rfl D1 k cd1 (pcs (l.take k)) rfl (own1.alloc _) (some ⟨w1.heap.size, 0, none⟩) 1 1 [.int .i64 id, .int .i64 t, .bool false] rfl (Sl.new _ #[.int .i64 id, .int .i64 t, .bool false] _) (by simp) (by simp [Value.oneCell']) (by omega) (by omega) (by simp; omega) ?_; intro D2 cd2 w2 own2 hg2 hlie2; have T2 : Turn [] w w2 := (T1.alloc _).andThen (grown_turn hg2) (fun i hi => .inr (B1 i hi).2); have B2 := own_ltA own2; have zz2 := T2.size)
          | (go_must (refine wpList_append_sl elemPr rfl _ _ rfl D2 (k + 1) cd2 _ rfl own2 A3 (n - k) (c - k) (pcs (l.drop k)) rfl (HST.out.turn0 T2) hl2 hone2.out (by omega) (by omega) (by omega) ?_); intro D3 cd3 w3 own3 hg3 hlie3))
        go_ret2
        refine ⟨D3, k + 1 + (n - k), cd3, by simp, ?_, T2.andThen (grown_turn hg3) (fun i hi => .inr (B2 i hi).2)⟩
        rw [HKP.out, pcs_append]
        simpa [pcs] using own3
end Go.Proofs.Ythmpkpifeickpaa
