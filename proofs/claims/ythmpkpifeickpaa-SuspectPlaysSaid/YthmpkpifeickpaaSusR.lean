/- Slices of the document's probes; contracts of vigilref22: Find, Begin, Answer, Step. -/
import Derived.Test.YthmpkpifeickpaaSusK
namespace Go.Proofs.Ythmpkpifeickpaa
open Go.RowKit Go.ChangeMaps Go.MapKept

def pcs : PM → List Value
  | [] => []
  | c :: r => .int .i64 c.1 :: .int .i64 c.2.1 :: .bool c.2.2 :: pcs r
theorem pcs_len : ∀ l : PM, (pcs l).length = l.length * 3
  | [] => rfl
  | c :: r => by simp [pcs, pcs_len r]; omega
theorem pcs_append : ∀ l m : PM, pcs (l ++ m) = pcs l ++ pcs m
  | [], m => rfl
  | c :: r, m => by simp [pcs, pcs_append r m]
theorem pcs_one : ∀ l : PM, ∀ u ∈ pcs l, u.oneCell' = true
  | [] => by simp [pcs]
  | c :: r => by
    intro u hu
    simp only [pcs, List.mem_cons] at hu
    rcases hu with rfl | rfl | rfl | hu
    · rfl
    · rfl
    · rfl
    · exact pcs_one r u hu
theorem pcs_get : ∀ (l : PM) (k : Nat) (hk : k < l.length), (pcs l)[k * 3]? = some (.int .i64 l[k].1) ∧ (pcs l)[k * 3 + 1]? = some (.int .i64 l[k].2.1) ∧ (pcs l)[k * 3 + 2]? = some (.bool l[k].2.2)
  | [], k, hk => absurd hk (by simp)
  | c :: r, 0, hk => ⟨rfl, rfl, rfl⟩
  | c :: r, k + 1, hk => by
    have h := pcs_get r k (by simpa using hk)
    have e : (k + 1) * 3 = k * 3 + 3 := by omega
    have e1 : (k + 1) * 3 + 1 = (k * 3 + 1) + 3 := by omega
    have e2 : (k + 1) * 3 + 2 = (k * 3 + 2) + 3 := by omega
    rw [e1, e2, e]
    exact h
theorem pcs_at {w : World} {A : Option Addr} {l : PM} (h : Sl w A (pcs l)) {k : Nat} (hk : k < l.length) : ∃ b off, A = some ⟨b, off, none⟩ ∧ b < w.heap.size ∧ w.cell? ⟨b, off + k * 3, none⟩ = some (.int .i64 l[k].1) ∧ w.cell? ⟨b, off + k * 3 + 1, none⟩ = some (.int .i64 l[k].2.1) ∧
    w.cell? ⟨b, off + k * 3 + 2, none⟩ = some (.bool l[k].2.2) := by
  obtain ⟨b, off, hA, hb, hc⟩ := h (by rw [pcs_len]; omega)
  obtain ⟨g0, g1, g2⟩ := pcs_get l k hk
  exact ⟨b, off, hA, hb, hc _ _ g0, by rw [Nat.add_assoc]; exact hc _ _ g1, by rw [Nat.add_assoc]; exact hc _ _ g2⟩
theorem infoPr : (Try.prog.info? 47).map (fun i => (i.zero, i.size, i.bytes)) = some (some (.agg #[.int .i64 0, .int .i64 0, .bool false]), 3, 24) := by kernel_rfl
theorem elemPr : ElemT Try.prog 36 47 (.agg #[.int .i64 0, .int .i64 0, .bool false]) 3 24 := ⟨Try.underlying36, info_parts infoPr, rfl, by decide⟩

/-- Find's answer. -/
def findI (l : PM) (id : Int) : Int := ((l.findIdx? (fun x => x.1 == id)).map (fun i => (i : Int))).getD (-1)
theorem findI_found {l : PM} {id : Int} {k : Nat} (hk : k < l.length) (h0 : ∀ j, (hj : j < k) → (l[j]'(by omega)).1 ≠ id) (hp : l[k].1 = id) : findI l id = k := by
  have h : l.findIdx? (fun x => x.1 == id) = some k := by
    rw [List.findIdx?_eq_some_iff_getElem]
    exact ⟨hk, by simpa using hp, fun j hj => by simpa using h0 j hj⟩
  simp [findI, h]
theorem findI_none {l : PM} {id : Int} (h0 : ∀ j, (hj : j < l.length) → l[j].1 ≠ id) : findI l id = -1 := by
  have h : l.findIdx? (fun x => x.1 == id) = none := by
    rw [List.findIdx?_eq_none_iff]
    intro x hx
    obtain ⟨j, hj, rfl⟩ := List.getElem_of_mem hx
    simpa using h0 j hj
  simp [findI, h]
theorem findI_cases (l : PM) (id : Int) : (kget l id = none ∧ findI l id = -1) ∨ ∃ (k : Nat) (hk : k < l.length) (a : Int × Bool), kget l id = some a ∧ findI l id = k ∧ l[k] = (id, a) := by
  cases h : l.findIdx? (fun x => x.1 == id) with
  | none =>
    left
    refine ⟨kget_none.2 (fun y hy => ?_), by simp [findI, h]⟩
    have := List.findIdx?_eq_none_iff.1 h y hy
    simpa using this
  | some k =>
    right
    obtain ⟨hk, hp, hm⟩ := List.findIdx?_eq_some_iff_getElem.1 h
    refine ⟨k, hk, l[k].2, ?_, by simp [findI, h], ?_⟩
    · unfold kget
      have : l.find? (fun p => p.1 == id) = some l[k] := by
        rw [List.find?_eq_some_iff_getElem]
        exact ⟨hp, k, hk, rfl, fun j hj => by simpa using hm j hj⟩
      rw [this]
      rfl
    · have : l[k].1 = id := by simpa using hp
      rw [← this]

set_option maxRecDepth 100000 in
set_option maxHeartbeats 1000000 in
theorem find_c (A : Option Addr) (n c : Nat) (l : PM) (id : Int) (w : World) (hx : Sl w A (pcs l)) (hn : l.length = n) (hl : n ≤ 1000000) :
    Calls Try.prog 12 #[.slice A n c, .int .i64 id] w fun e w' => e = .returned (.int .i64 (findI l id)) ∧ w = w' := by
  have HN := Lib.hid hn
  clear hn
  go_enter Try.func12, Try.ntmps12
  go_wp2_with fail
  go_loop [5] (fun i => ∃ k : Nat, k ≤ n ∧ i = .int .i64 k ∧ Hid (∀ j, (hj : j < k) → (hl : j < l.length) → (l[j]'hl).1 ≠ id)) (fun i => n - (intOf i).toNat)
  case atStart => exact ⟨0, Nat.zero_le _, rfl, Lib.hid (fun j hj => absurd hj (by omega))⟩
  case round =>
    obtain ⟨k, hk, rfl, ht⟩ := hrel
    have i0 : (0 : Int) ≤ (k : Int) := Int.natCast_nonneg _
    by_cases hlt : k < n
    · have kx : k < l.length := by rw [HN.out]; exact hlt
      have i1 : (k : Int) < (n : Int) := by omega
      obtain ⟨b1, o1, rfl, l1, c0, -, -⟩ := pcs_at hx kx
      by_cases he : l[k].1 = id
      · have hv : Hid (findI l id = k) := findI_found kx (fun j hj => ht.out j hj (by omega)) he
        have he' : (l[k].1 == id) = true := by simpa using he
        clear he
        generalize l[k] = x at *
        go_wp2_with fail
        go_ret
        exact ⟨by rw [hv.out]; simp, rfl⟩
      · have hnx : Hid (∀ j, (hj : j < k + 1) → (hl : j < l.length) → (l[j]'hl).1 ≠ id) := fun j hj hl => by
          by_cases h : j = k
          · subst h; exact he
          · exact ht.out j (by omega) hl
        have he' : (l[k].1 == id) = false := by simpa using he
        clear he
        generalize l[k] = x at *
        go_wp2_with fail
        go_round
        case rel => exact ⟨k + 1, by omega, by go_num, hnx⟩
        case measure => simp [intOf]; omega
    · have hv : Hid (findI l id = -1) := findI_none (fun j hj => ht.out j (by have := HN.out; omega) hj)
      have i1 : ¬ (k : Int) < (n : Int) := by omega
      go_wp2_with fail
      go_ret
      exact ⟨by rw [hv.out]; simp, rfl⟩

set_option maxRecDepth 100000 in
set_option maxHeartbeats 1000000 in
theorem ranswer_c (A : Option Addr) (n c : Nat) (l : PM) (id : Int) (w : World) (hx : Sl w A (pcs l)) (hn : l.length = n) (hl : n ≤ 1000000) :
    Calls Try.prog 13 #[.slice A n c, .int .i64 id] w fun e w' => ∃ D nd cd, e = .returned (.slice D nd cd) ∧ w'.ownsRow w.heap.size 47 3 (.slice D nd cd) nd (pcs (kdel l id)) ∧ Turn [] w w' := by
  have HN := Lib.hid hn
  clear hn
  go_enter Try.func13, Try.ntmps13
  go_wp2_with fail
  go_loopw [5, 6] (fun out i wr => ∃ k : Nat, k ≤ n ∧ i = .int .i64 k ∧ ∃ D nd cd, out = .slice D nd cd ∧ nd ≤ k ∧ wr.ownsRow w.heap.size 47 3 (.slice D nd cd) nd (pcs (kdel (l.take k) id)) ∧ Turn [] w wr) (fun _ i _ => n - (intOf i).toNat)
  case atStart => exact ⟨0, Nat.zero_le _, rfl, none, 0, 0, rfl, by omega, World.ownsRow_nil _ _ _ _, Turn.refl _ _⟩
  case round =>
    obtain ⟨k, hk, rfl, D, nd, cd, rfl, hnd, ho, hT⟩ := hrel
    have i0 : (0 : Int) ≤ (k : Int) := Int.natCast_nonneg _
    by_cases hlt : k < n
    · have kx : k < l.length := by rw [HN.out]; exact hlt
      have i1 : (k : Int) < (n : Int) := by omega
      obtain ⟨b1, o1, rfl, l1, c0, c1, c2⟩ := pcs_at (hx.turn0 hT) kx
      have hst : Hid (kdel (l.take (k + 1)) id = kdel (l.take k) id ++ (if l[k].1 = id then [] else [l[k]])) := by
        show _ = _
        unfold kdel
        rw [List.take_succ_eq_append_getElem kx, List.filter_append]
        congr 1
        by_cases h : l[k].1 = id <;> simp [h]
      have hD := own_ltA ho
      have hzz := hT.size
      by_cases he : l[k].1 = id
      · have he' : (l[k].1 == id) = true := by simpa using he
        have he2 : (l[k].1 != id) = false := by simpa using he
        have hv : Hid (kdel (l.take (k + 1)) id = kdel (l.take k) id) := by show _ = _; rw [hst.out, if_pos he, List.append_nil]
        clear he
        generalize l[k] = x at *
        go_wp2_with fail
        go_roundw
        case rel => exact ⟨k + 1, by omega, by go_num, D, nd, cd, rfl, by omega, by rw [hv.out]; exact ho, hT⟩
        case measure => simp [intOf]; omega
      · have he' : (l[k].1 == id) = false := by simpa using he
        have he2 : (l[k].1 != id) = true := by simpa using he
        have hv : Hid (kdel (l.take (k + 1)) id = kdel (l.take k) id ++ [l[k]]) := by show _ = _; rw [hst.out, if_neg he]
        clear he
        generalize l[k] = x at *
        obtain ⟨x1, x2, x3⟩ := x
        simp only at c0 c1 c2 he' he2
        go_wp2_with (at_builtin; go_must (refine wpList_append_sl elemPr rfl _ _ rfl D nd cd _ rfl (ho.alloc _) (some ⟨wr.heap.size, 0, none⟩) 1 1 [.int .i64 x1, .int .i64 x2, .bool x3] rfl (Sl.new _ #[.int .i64 x1, .int .i64 x2, .bool x3] _) (by simp) (by simp [Value.oneCell']) (by omega) (by omega) (by simp; omega) ?_); intro D2 cd2 w3 own3 hg3 hlie3)
        go_roundw
        case rel => exact ⟨k + 1, by omega, by go_num, D2, nd + 1, cd2, rfl, by omega, by rw [hv.out, pcs_append]; exact own3, (hT.alloc _).andThen (grown_turn hg3) (fun i hi => .inr (hD i hi).2)⟩
        case measure => simp [intOf]; omega
    · obtain rfl : k = n := by omega
      have i1 : ¬ (k : Int) < (k : Int) := by omega
      rw [List.take_of_length_le (by rw [HN.out]; exact Nat.le_refl _)] at ho
      go_wp2_with fail
      go_ret
      exact ⟨D, nd, cd, by simp, ho, hT⟩

def rOut (t : Int) (l : PM) : PM := (l.filter (fun x => !failB t x.2)).map (fun x => if toldB t x.2 then (x.1, x.2.1, true) else x)
def rTold (t : Int) (l : PM) : List Int := idsOf (toldB t) (l.filter (fun x => !failB t x.2))
theorem rOut_snoc (t : Int) (l : PM) (x : Int × Int × Bool) : rOut t (l ++ [x]) = rOut t l ++ (if failB t x.2 then [] else [if toldB t x.2 then (x.1, x.2.1, true) else x]) := by
  unfold rOut
  rw [List.filter_append, List.map_append]
  congr 1
  cases h : failB t x.2 <;> simp [h]
theorem rTold_snoc (t : Int) (l : PM) (x : Int × Int × Bool) : rTold t (l ++ [x]) = rTold t l ++ (if failB t x.2 then [] else if toldB t x.2 then [x.1] else []) := by
  unfold rTold idsOf
  rw [List.filter_append, List.filter_append, List.map_append]
  congr 1
  cases h : failB t x.2 <;> cases h2 : toldB t x.2 <;> simp [h, h2]
theorem rFail_snoc (t : Int) (l : PM) (x : Int × Int × Bool) : idsOf (failB t) (l ++ [x]) = idsOf (failB t) l ++ (if failB t x.2 then [x.1] else []) := by
  unfold idsOf
  rw [List.filter_append, List.map_append]
  congr 1
  cases h : failB t x.2 <;> simp [h]
theorem app_keep {wa wb : World} {base n cap size : Nat} {e : TypeId} {D G G2 : Option Addr} {xs : List Value} (h : wa.ownsRow base e size (.slice D n cap) n xs) (hg : wa.grownBy wb (G.map (·.block))) (hlie : Lies wa G G2) (ap : ∀ i ∈ blks D, i ∉ blks G) :
    wb.ownsRow base e size (.slice D n cap) n xs ∧ ∀ i ∈ blks D, i ∉ blks G2 :=
  ⟨own_turnA h (grown_turn hg) ap, fun i hi hm => by
    rcases lies_blks hlie i hm with h1 | h1
    · exact ap i hi h1
    · have := (own_ltA h i hi).1
      omega⟩
structure RStep (t : Int) (l : PM) (w : World) (k : Nat) (D : Option Addr) (nd cd : Nat) (E : Option Addr) (ne ce : Nat) (G : Option Addr) (ng cg : Nat) (wr : World) : Prop where
  o1 : wr.ownsRow w.heap.size 47 3 (.slice D nd cd) nd (pcs (rOut t (l.take k)))
  o2 : wr.ownsRow w.heap.size 3 1 (.slice E ne ce) ne (i64s (rTold t (l.take k)))
  o3 : wr.ownsRow w.heap.size 3 1 (.slice G ng cg) ng (i64s (idsOf (failB t) (l.take k)))
  n1 : nd ≤ k
  n2 : ne ≤ k
  n3 : ng ≤ k
  a12 : ∀ i ∈ blks D, i ∉ blks E
  a13 : ∀ i ∈ blks D, i ∉ blks G
  a23 : ∀ i ∈ blks E, i ∉ blks G
  turn : Turn [] w wr
set_option maxRecDepth 100000 in
set_option maxHeartbeats 1000000 in
theorem rstep_c (A : Option Addr) (n c : Nat) (l : PM) (t : Int) (w : World) (hx : Sl w A (pcs l)) (hn : l.length = n) (hl : n ≤ 1000000) (ht0 : 0 ≤ t) (ht1 : t ≤ 1073741824) (hb : ∀ x ∈ l, 0 ≤ x.2.1 ∧ x.2.1 ≤ 1073741824) :
    Calls Try.prog 14 #[.slice A n c, .int .i64 t] w fun e w' => ∃ D nd cd E ne ce G ng cg, e = .returned (.tuple #[.slice D nd cd, .slice E ne ce, .slice G ng cg]) ∧ RStep t l w n D nd cd E ne ce G ng cg w' := by
  have HN := Lib.hid hn
  clear hn
  go_enter Try.func14, Try.ntmps14
  go_wp2_with fail
  go_loopw [7, 8, 9, 10] (fun out told failed i wr => ∃ k : Nat, k ≤ n ∧ i = .int .i64 k ∧ ∃ D nd cd E ne ce G ng cg, out = .slice D nd cd ∧ told = .slice E ne ce ∧ failed = .slice G ng cg ∧ RStep t l w k D nd cd E ne ce G ng cg wr) (fun _ _ _ i _ => n - (intOf i).toNat)
  case atStart => exact ⟨0, Nat.zero_le _, rfl, none, 0, 0, none, 0, 0, none, 0, 0, rfl, rfl, rfl, ⟨World.ownsRow_nil _ _ _ _, World.ownsRow_nil _ _ _ _, World.ownsRow_nil _ _ _ _, by omega, by omega, by omega, by simp [blks], by simp [blks], by simp [blks], Turn.refl _ _⟩⟩
  case round =>
    obtain ⟨k, hk, rfl, D, nd, cd, E, ne, ce, G, ng, cg, rfl, rfl, rfl, R⟩ := hrel
    have i0 : (0 : Int) ≤ (k : Int) := Int.natCast_nonneg _
    by_cases hlt : k < n
    · have kx : k < l.length := by rw [HN.out]; exact hlt
      have i1 : (k : Int) < (n : Int) := by omega
      obtain ⟨b1, o1, rfl, l1, c0, c1, c2⟩ := pcs_at (hx.turn0 R.turn) kx
      have s1 := rOut_snoc t (l.take k) l[k]
      have s2 := rTold_snoc t (l.take k) l[k]
      have s3 := rFail_snoc t (l.take k) l[k]
      rw [← List.take_succ_eq_append_getElem kx] at s1 s2 s3
      have hbx := hb _ (List.getElem_mem kx)
      generalize l[k] = x at *
      obtain ⟨x1, x2, x3⟩ := x
      simp only at c0 c1 c2 hbx s1 s2 s3
      have hw : IntKind.i64.wrap (t - x2) = t - x2 := IntWalk.i64_in _ (by omega)
      have S1 := Lib.hid s1
      have S2 := Lib.hid s2
      have S3 := Lib.hid s3
      have HR := Lib.hid R
      have hzz := R.turn.size
      have hbd := own_ltA R.o1
      have hbe := own_ltA R.o2
      have hbg := own_ltA R.o3
      have n1 := R.n1
      have n2 := R.n2
      have n3 := R.n3
      clear s1 s2 s3 R
      have hrt := HR.out.turn
      have p13 := HR.out.a13
      have p12 := HR.out.a12
      have p23 := HR.out.a23
      by_cases hf : x2 ≤ t - 12
      · have hfb : failB t (x2, x3) = true := by simp [failB, hf]
        have g1 : (12 : Int) ≤ t - x2 := by omega
        have ro3 := HR.out.o3
        go_wp2_with (at_builtin; go_must (refine wpList_append_sl elemI rfl _ _ rfl G ng cg _ rfl ((ro3.alloc _).alloc _) (some ⟨wr.heap.size + 1, 0, none⟩) 1 1 [.int .i64 x1] rfl (by have := Sl.new (wr.alloc (.cells #[.int .i64 x1, .int .i64 x2, .bool x3] 47)) #[.int .i64 x1] 3; simpa using this) (by simp) (by simp [Value.oneCell']) (by omega) (by omega) (by simp; omega) ?_); intro G2 cg2 w3 own3 hg3 hlie3)
        obtain ⟨d1, d2⟩ := app_keep ((HR.out.o1.alloc _).alloc _) hg3 hlie3 p13
        obtain ⟨e1, e2⟩ := app_keep ((HR.out.o2.alloc _).alloc _) hg3 hlie3 p23
        have hT3 := ((hrt.alloc (.cells #[.int .i64 x1, .int .i64 x2, .bool x3] 47)).alloc (.cells #[.int .i64 x1] 3)).andThen (grown_turn hg3) (fun i hi => .inr (hbg i hi).2)
        go_roundw
        case rel => exact ⟨k + 1, by omega, by go_num, D, nd, cd, E, ne, ce, G2, ng + 1, cg2, rfl, rfl, rfl, ⟨by rw [S1.out, hfb]; simpa using d1, by rw [S2.out, hfb]; simpa using e1, by rw [S3.out, hfb]; simpa [i64s] using own3, by omega, by omega, by omega, p12, d2, e2, hT3⟩⟩
        case measure => simp [intOf]; omega
      · have hfb : failB t (x2, x3) = false := by simp [failB]; omega
        have g1 : ¬ (12 : Int) ≤ t - x2 := by omega
        by_cases htd : x3 = false ∧ x2 ≤ t - 4
        · obtain ⟨h3, h4⟩ := htd
          subst h3
          have htb : toldB t (x2, false) = true := by simp [toldB, h4]
          have g2 : (4 : Int) ≤ t - x2 := by omega
          have ro2 := HR.out.o2
          have B0 := (Blk.new wr 47 #[.int .i64 x1, .int .i64 x2, .bool false]).alloc (.cells #[.int .i64 x1] 3)
          have ro1 := HR.out.o1
          go_wp2_with (at_builtin; first
            | (refine wpList_append_sl elemI rfl _ _ rfl E ne ce _ rfl ((ro2.alloc _).alloc _) (some ⟨wr.heap.size + 1, 0, none⟩) 1 1 [.int .i64 x1] rfl (by have := Sl.new (wr.alloc (.cells #[.int .i64 x1, .int .i64 x2, .bool false] 47)) #[.int .i64 x1] 3; simpa using this) (by simp) (by simp [Value.oneCell']) (by omega) (by omega) (by simp; omega) ?_; intro E2 ce2 w3 own3 hg3 hlie3; have K3 := (grown_turn hg3).blk B0 (fun hm => by have := (hbe _ hm).1; omega); have q0 := K3.cell 0; have q1 := K3.cell 1; have q2 := K3.cell 2; have f2 := K3.frozen 2; have K4 := K3.set_ 2 (.bool true); have r0 := K4.cell 0; have r1 := K4.cell 1; have r2 := K4.cell 2; have hz3 := hg3.size; have zb : wr.heap.size < w3.heap.size := K3.lt; have row1 := app_keep ((ro1.alloc _).alloc _) hg3 hlie3 p12; have Ts := (Turn.refl [wr.heap.size] w3).setCell (p := ⟨wr.heap.size, 2, none⟩) (.inl (by simp)) (.bool true); have row1' := own_turnA row1.1 Ts (fun i hi hm => by have := (hbd i hi).1; simp at hm; omega))
            | (go_must (refine wpList_append_sl elemPr rfl _ _ rfl D nd cd _ rfl (row1'.alloc _) (some ⟨w3.heap.size, 0, none⟩) 1 1 [.int .i64 x1, .int .i64 x2, .bool true] rfl (by have := Sl.new (w3.setCell ⟨wr.heap.size, 2, none⟩ (.bool true)) #[.int .i64 x1, .int .i64 x2, .bool true] 47; simpa [World.setCell] using this) (by simp) (by simp [Value.oneCell']) (by omega) (by omega) (by simp [World.setCell]; simp at hz3; omega) ?_); intro D2 cd2 w5 own5 hg5 hlie5))
          simp at hz3
          have g3 := grown_turn hg3
          have hE2 : ∀ i ∈ blks E2, i ∈ blks E ∨ i = wr.heap.size + 2 := fun i hi => by
            rcases lies_blks hlie3 i hi with h1 | h1
            · exact .inl h1
            · right; simpa using h1
          have oE3 : (w3.setCell ⟨wr.heap.size, 2, none⟩ (.bool true)).ownsRow w.heap.size 3 1 (.slice E2 (ne + 1) ce2) (ne + 1) _ := own_turnA own3 Ts (fun i hi hm => by
            simp at hm
            rcases hE2 i hi with h1 | h1
            · have := (hbe i h1).1; omega
            · omega)
          have kG := app_keep ((HR.out.o3.alloc (.cells #[.int .i64 x1, .int .i64 x2, .bool false] 47)).alloc (.cells #[.int .i64 x1] 3)) hg3 hlie3 (fun i hi hm => p23 i hm hi)
          have oG3 := own_turnA kG.1 Ts (fun i hi hm => by have := (hbg i hi).1; simp at hm; omega)
          have kE := app_keep (oE3.alloc (.cells #[.int .i64 x1, .int .i64 x2, .bool true] 47)) hg5 hlie5 (fun i hi hm => row1.2 i hm hi)
          have kG5 := app_keep (oG3.alloc (.cells #[.int .i64 x1, .int .i64 x2, .bool true] 47)) hg5 hlie5 (fun i hi hm => p13 i hm hi)
          have hT3 : Turn [] w w3 := ((hrt.alloc (.cells #[.int .i64 x1, .int .i64 x2, .bool false] 47)).alloc (.cells #[.int .i64 x1] 3)).andThen g3 (fun i hi => .inr (hbe i hi).2)
          have hT5 : Turn [] w w5 := ((hT3.andThen Ts (by intro i hi; simp at hi; exact .inr (by omega))).alloc (.cells #[.int .i64 x1, .int .i64 x2, .bool true] 47)).andThen (grown_turn hg5) (fun i hi => .inr (hbd i hi).2)
          go_roundw
          case rel => exact ⟨k + 1, by omega, by go_num, D2, nd + 1, cd2, E2, ne + 1, ce2, G, ng, cg, rfl, rfl, rfl, ⟨by rw [S1.out, hfb, htb, pcs_append]; exact own5, by rw [S2.out, hfb, htb]; simpa [i64s] using kE.1, by rw [S3.out, hfb]; simpa using kG5.1, by omega, by omega, by omega, fun i hi hm => kE.2 i hm hi, fun i hi hm => kG5.2 i hm hi, fun i hi hm => kG.2 i hm hi, hT5⟩⟩
          case measure => simp [intOf]; omega
        · have htb : toldB t (x2, x3) = false := by
            simp [toldB]
            intro h3
            have : ¬ x2 ≤ t - 4 := fun h4 => htd ⟨h3, h4⟩
            omega
          cases x3 with
          | true =>
            have ro1 := HR.out.o1
            go_wp2_with (at_builtin; go_must (refine wpList_append_sl elemPr rfl _ _ rfl D nd cd _ rfl ((ro1.alloc _).alloc _) (some ⟨wr.heap.size + 1, 0, none⟩) 1 1 [.int .i64 x1, .int .i64 x2, .bool true] rfl (by have := Sl.new (wr.alloc (.cells #[.int .i64 x1, .int .i64 x2, .bool true] 47)) #[.int .i64 x1, .int .i64 x2, .bool true] 47; simpa using this) (by simp) (by simp [Value.oneCell']) (by omega) (by omega) (by simp; omega) ?_); intro D2 cd2 w5 own5 hg5 hlie5)
            have kE := app_keep ((HR.out.o2.alloc _).alloc _) hg5 hlie5 (fun i hi hm => p12 i hm hi)
            have kG := app_keep ((HR.out.o3.alloc _).alloc _) hg5 hlie5 (fun i hi hm => p13 i hm hi)
            have hT5 : Turn [] w w5 := ((hrt.alloc _).alloc _).andThen (grown_turn hg5) (fun i hi => .inr (hbd i hi).2)
            go_roundw
            case rel => exact ⟨k + 1, by omega, by go_num, D2, nd + 1, cd2, E, ne, ce, G, ng, cg, rfl, rfl, rfl, ⟨by rw [S1.out, hfb, htb, pcs_append]; exact own5, by rw [S2.out, hfb, htb]; simpa using kE.1, by rw [S3.out, hfb]; simpa using kG.1, by omega, by omega, by omega, fun i hi hm => kE.2 i hm hi, fun i hi hm => kG.2 i hm hi, p23, hT5⟩⟩
            case measure => simp [intOf]; omega
          | false =>
            have g2 : ¬ (4 : Int) ≤ t - x2 := fun h => htd ⟨rfl, by omega⟩
            have ro1 := HR.out.o1
            go_wp2_with (at_builtin; go_must (refine wpList_append_sl elemPr rfl _ _ rfl D nd cd _ rfl ((ro1.alloc _).alloc _) (some ⟨wr.heap.size + 1, 0, none⟩) 1 1 [.int .i64 x1, .int .i64 x2, .bool false] rfl (by have := Sl.new (wr.alloc (.cells #[.int .i64 x1, .int .i64 x2, .bool false] 47)) #[.int .i64 x1, .int .i64 x2, .bool false] 47; simpa using this) (by simp) (by simp [Value.oneCell']) (by omega) (by omega) (by simp; omega) ?_); intro D2 cd2 w5 own5 hg5 hlie5)
            have kE := app_keep ((HR.out.o2.alloc _).alloc _) hg5 hlie5 (fun i hi hm => p12 i hm hi)
            have kG := app_keep ((HR.out.o3.alloc _).alloc _) hg5 hlie5 (fun i hi hm => p13 i hm hi)
            have hT5 : Turn [] w w5 := ((hrt.alloc _).alloc _).andThen (grown_turn hg5) (fun i hi => .inr (hbd i hi).2)
            go_roundw
            case rel => exact ⟨k + 1, by omega, by go_num, D2, nd + 1, cd2, E, ne, ce, G, ng, cg, rfl, rfl, rfl, ⟨by rw [S1.out, hfb, htb, pcs_append]; exact own5, by rw [S2.out, hfb, htb]; simpa using kE.1, by rw [S3.out, hfb]; simpa using kG.1, by omega, by omega, by omega, fun i hi hm => kE.2 i hm hi, fun i hi hm => kG.2 i hm hi, p23, hT5⟩⟩
            case measure => simp [intOf]; omega
    · obtain rfl : k = n := by omega
      have i1 : ¬ (k : Int) < (k : Int) := by omega
      go_wp2_with fail
      refine bodyPost_ret (v := .tuple #[.slice D nd cd, .slice E ne ce, .slice G ng cg]) (by simp [results, Try.results14, go_sem]) rfl ⟨D, nd, cd, E, ne, ce, G, ng, cg, rfl, R⟩
end Go.Proofs.Ythmpkpifeickpaa
