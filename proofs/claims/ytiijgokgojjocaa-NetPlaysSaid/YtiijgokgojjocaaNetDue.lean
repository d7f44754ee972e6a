/- A net's Due. -/
import Derived.Test.YtiijgokgojjocaaNetDueP
import Derived.Test.YtiijgokgojjocaaPairs2
namespace Go.Proofs.Ytiijgokgojjocaa
open Go.RowKit Go.ChangeMaps Go.WideMaps Go.MapKept Go.WideShapes Srt

section
variable {w w' wr : World} {g d cb kb : Nat} {s : Int} {r : Rl} {cut : List (Int × Int)} {came : List ((Int × Int) × Int)} {base : Nat} {A : Option Addr} {n cap : Nat} {ms : List Ml} {sent lost told : Int}
theorem zeroI (w : World) : (zeroValue 3).run Try.prog w = .ok (.int .i64 0) w := by kernel_rfl
theorem NetIs.turnS (h : NetIs w g d cb kb s r cut came base A n cap ms sent lost told) {S : List Nat} (hT : Turn S w w') (hS : ∀ i ∈ S, base ≤ i ∧ i ∉ blks A ∧ ∀ m ∈ ms, i ∉ blks m.A) : NetIs w' g d cb kb s r cut came base A n cap ms sent lost told := by
  have hlow := h.low
  have off : ∀ i, i < base → i ∉ S := fun i hi hm => by have := (hS i hm).1; omega
  obtain ⟨es, k, h1, h2⟩ := h.cutm
  obtain ⟨es', k', h3, h4⟩ := h.camem
  exact ⟨hT.blk h.blk (off _ hlow.1), hT.blk h.drw (off _ hlow.2.1), ⟨es, k, hT.obj h1 (off _ hlow.2.2.1), h2⟩, ⟨es', k', hT.obj h3 (off _ hlow.2.2.2), h4⟩, own_turnA h.row hT (fun i hi hm => (hS i hm).2.1 hi), h.len, h.le,
    fun m hm => ⟨(h.mok m hm).1.turn hT (fun i hi hm' => (hS i hm').2.2 m hm hi), (h.mok m hm).2⟩, h.apart, h.low, Nat.le_trans h.lo hT.size, h.rok⟩
/-- The map of what came is another one. -/
theorem NetIs.setCame (h : NetIs w g d cb kb s r cut came base A n cap ms sent lost told) {es : Array MapEntry} {k : Nat} {came' : List ((Int × Int) × Int)} (hp : PairsIs es k (camePM came')) : NetIs (setBlock w kb (.map es k)) g d cb kb s r cut came' base A n cap ms sent lost told := by
  have hap := h.apart
  have hlow := h.low
  have hA := own_ltA h.row
  have T : Turn [kb] w (setBlock w kb (.map es k)) := (Turn.refl [kb] w).setBlock (.inl (by simp)) _
  obtain ⟨es0, k0, h1, h2⟩ := h.cutm
  obtain ⟨es', k', h3, h4⟩ := h.camem
  exact ⟨T.blk h.blk (by simpa using hap.2.2.1), T.blk h.drw (by simpa using hap.2.2.2.2.1), ⟨es0, k0, T.obj h1 (by simpa using hap.2.2.2.2.2), h2⟩, ⟨es, k, get_set h3 _, hp⟩,
    own_turnA h.row T (fun i hi hm => by simp at hm; subst hm; have := (hA _ hi).2; omega), h.len, h.le, fun m hm => ⟨(h.mok m hm).1.turn T (fun i hi hm' => by simp at hm'; subst hm'; have := ((h.mok m hm).2 _ hi).1; omega), (h.mok m hm).2⟩, h.apart, h.low, Nat.le_trans h.lo T.size, h.rok⟩
/-- 'n.came[..] += ..'. -/
theorem NetIs.came_entry (h : NetIs w g d cb kb s r cut came base A n cap ms sent lost told) {m : Ml} (hv : MlV m) (hlen : came.length ≤ 1000000) :
    (Instr.lookup 76 (.map (some kb)) (.agg #[.int .i64 m.fr, .int .i64 m.dst]) false).run Try.prog w = .ok (.int .i64 ((pget came (m.fr, m.dst)).getD 0)) w ∧
    ∃ v0 st es1 clock1, (Instr.mapEntry 76 (.map (some kb)) (.agg #[.int .i64 m.fr, .int .i64 m.dst])).run Try.prog w = .ok (.tuple #[v0, .int .i64 (st : Nat)]) (setBlock w kb (.map es1 clock1)) ∧ (Instr.lookup 76 (.map (some kb)) (.agg #[.int .i64 m.fr, .int .i64 m.dst]) false).run Try.prog (setBlock w kb (.map es1 clock1)) = .ok (.int .i64 ((pget came (m.fr, m.dst)).getD 0)) (setBlock w kb (.map es1 clock1)) ∧
      ∃ w', (Instr.entryStore 76 (.map (some kb)) (.int .i64 (st : Nat)) (.int .i64 ((pget came (m.fr, m.dst)).getD 0 + (m.n : Int)))).run Try.prog (setBlock w kb (.map es1 clock1)) = .ok () w' ∧
        NetIs w' g d cb kb s r cut (cameAdd came m) base A n cap ms sent lost told ∧ Turn [kb] w w' := by
  obtain ⟨es, k, h1, h2⟩ := h.camem
  have hx : wfP (m.fr, m.dst) := ⟨hv.2.1, hv.2.2⟩
  refine ⟨?_, ?_⟩
  · have := h2.look keyedP keyP Try.underlying76 zeroI hx w kb h1
    rw [camePM_get] at this
    exact this
  · obtain ⟨v0, st, es1, clock1, e1, e2⟩ := h2.entry lawP keyP Try.underlying76 zeroI (by rw [camePM_len]; unfold maxLen; omega) hx w kb h1
    obtain ⟨es', clock', e3, e4⟩ := e2 (setBlock w kb (.map es1 clock1)) (.int .i64 ((pget came (m.fr, m.dst)).getD 0 + (m.n : Int))) (get_set h1 _)
    rw [camePM_put] at e3
    refine ⟨v0, st, es1, clock1, e1, by have := h2.entry_look lawP keyP Try.underlying76 zeroI hx w kb h1 e1; rw [camePM_get] at this; exact this, _, e4, ?_, ((Turn.refl [kb] w).setBlock (.inl (by simp)) _).setBlock (.inl (by simp)) _⟩
    have e5 : setBlock (setBlock w kb (.map es1 clock1)) kb (.map es' clock') = setBlock w kb (.map es' clock') := by
      simp [setBlock]
    rw [e5]
    exact h.setCame e3

theorem NetIs.dueEnd (h : NetIs w g d cb kb s r cut came base A n cap ms sent lost told) {p : Ml → Bool} {w2 w4 : World} (T12 : Turn (blks A) w w2) {n' cap' : Nat} (row2 : w2.ownsRow base 34 4 (.slice A n' cap') n' (mcs (ms.filter p))) {S : List Nat}
    (hT : Turn S (w2.setCell ⟨g, 6, none⟩ (.slice A n' cap')) w4) (hS : ∀ i ∈ S, base ≤ i ∧ i ∉ blks A ∧ ∀ m ∈ ms, i ∉ blks m.A) (v : Int) :
    NetIs (w4.setCell ⟨g, 10, none⟩ (.int .i64 v)) g d cb kb s r cut came base A n' cap' (ms.filter p) sent lost v ∧ Turn (g :: S ++ blks A) w (w4.setCell ⟨g, 10, none⟩ (.int .i64 v)) := by
  have hap := h.apart
  have hlow := h.low
  have hA := own_ltA h.row
  have offA : ∀ i, i < base → i ∉ blks A := fun i hi hm => by have := (hA i hm).2; omega
  have offS : ∀ i, i < base → i ∉ S := fun i hi hm => by have := (hS i hm).1; omega
  have T23 : Turn [g] w2 (w2.setCell ⟨g, 6, none⟩ (.slice A n' cap')) := (Turn.refl [g] w2).setCell (.inl (by simp)) _
  have T45 : Turn [g] w4 (w4.setCell ⟨g, 10, none⟩ (.int .i64 v)) := (Turn.refl [g] w4).setCell (.inl (by simp)) _
  have T : Turn (g :: S ++ blks A) w (w4.setCell ⟨g, 10, none⟩ (.int .i64 v)) := (((T12.mono (by intro i hi; simp [hi])).trans (T23.mono (by simp))).trans (hT.mono (by intro i hi; simp [hi]))).trans (T45.mono (by simp))
  have T25 : Turn (g :: S) w2 (w4.setCell ⟨g, 10, none⟩ (.int .i64 v)) := ((T23.mono (by simp)).trans (hT.mono (by intro i hi; simp [hi]))).trans (T45.mono (by simp))
  have off : ∀ i, i < base → i ≠ g → i ∉ g :: S ++ blks A := fun i hi hne => by simp; exact ⟨hne, offS i hi, offA i hi⟩
  have hflen : (ms.filter p).length = n' := by have := row2.1; rw [mcs_len] at this; omega
  obtain ⟨es, k, h1, h2⟩ := h.cutm
  obtain ⟨es', k', h3, h4⟩ := h.camem
  have b2 := T12.blk h.blk (offA _ hlow.1)
  have b3 := b2.set_ 6 (.slice A n' cap')
  have b4 := hT.blk b3 (offS _ hlow.1)
  have b5 := b4.set_ 10 (.int .i64 v)
  refine ⟨⟨by simpa using b5, T.blk h.drw (off _ hlow.2.1 (Ne.symm hap.1)), ⟨es, k, T.obj h1 (off _ hlow.2.2.1 (Ne.symm hap.2.1)), h2⟩, ⟨es', k', T.obj h3 (off _ hlow.2.2.2 (Ne.symm hap.2.2.1)), h4⟩, own_turnA row2 T25 (fun i hi hm => ?_), hflen, ?_, ?_, h.apart, h.low, Nat.le_trans h.lo T.size, h.rok⟩, T⟩
  · simp at hm
    rcases hm with hm | hm
    · subst hm; have := (hA _ hi).2; omega
    · exact (hS i hm).2.1 hi
  · have := List.length_filter_le p ms
    have := h.len
    have := h.le
    omega
  · intro m hm
    have hm' := (List.mem_filter.1 hm).1
    have hk := h.mok m hm'
    refine ⟨hk.1.turn T (fun i hi hmm => ?_), hk.2⟩
    simp at hmm
    rcases hmm with hmm | hmm | hmm
    · subst hmm; have := (hk.2 _ hi).1; omega
    · exact (hS i hmm).2.2 m hm' hi
    · exact (hk.2 i hi).2 hmm

/-- What Due does. -/
def Dued (w : World) (g d cb kb : Nat) (s : Int) (r : Rl) (cut : List (Int × Int)) (came : List ((Int × Int) × Int)) (base : Nat) (A : Option Addr) (_n _cap : Nat) (ms : List Ml) (sent lost told tick : Int) (e : Ending) (w' : World) : Prop :=
  ∃ O co n' cap', e = .returned (.slice O (ms.filter (isDue tick)).length co) ∧ w'.ownsRow w.heap.size 34 4 (.slice O (ms.filter (isDue tick)).length co) (ms.filter (isDue tick)).length (mcs (srt Ml.due (ms.filter (isDue tick)))) ∧
    NetIs w' g d cb kb s r cut (cameAll came (ms.filter (isDue tick))) base A n' cap' (ms.filter (fun m => !isDue tick m)) sent lost (told + ((ms.filter (isDue tick)).length : Int)) ∧
    (∀ m ∈ ms.filter (isDue tick), MlOk w' m) ∧ Turn (g :: kb :: blks A) w w'

set_option maxRecDepth 100000 in
set_option maxHeartbeats 8000000 in
theorem dueN_c (h : NetIs w g d cb kb s r cut came base A n cap ms sent lost told) (tick : Int) (hlen : came.length ≤ 900000) (c : Int) (hc : CameOk came c) (hc2 : c ≤ 1000000000000000) (ht0 : 0 ≤ told) (ht1 : told ≤ 1000000000) :
    Calls Try.prog 10 #[.pointer (some ⟨g, 0, none⟩), .int .i64 tick] w (Dued w g d cb kb s r cut came base A n cap ms sent lost told tick) := by
  have T0 := (Turn.refl [] w).alloc (.cells #[.int .i64 tick] 3)
  have BT := Blk.new w 3 #[.int .i64 tick]
  have H0 := Lib.hid (h.turn T0 (by simp))
  have HH := Lib.hid h
  have HLN := Lib.hid h.len
  have hle := h.le
  have hap := h.apart
  have hlow := h.low
  have hlo := h.lo
  obtain ⟨-, -, -, -, -, -, c6, c7, -, -, c10⟩ := H0.out.cells
  have gl := H0.out.lts.1
  have CL := Lib.hid hlen
  have CO := Lib.hid hc
  clear h hlen hc
  go_enter Try.func10, Try.ntmps10
  go_wp2_with fail
  have hb0 : w.heap.size < (w.alloc (.cells #[.int .i64 tick] 3)).heap.size := by simp
  generalize w.alloc (.cells #[.int .i64 tick] 3) = w0 at *
  obtain ⟨tb, htb⟩ : ∃ tb, tb = w.heap.size := ⟨_, rfl⟩
  rw [← htb] at BT
  rw [← htb]
  have HTB := Lib.hid htb
  clear htb c6 c7 c10
  go_loopw [5, 17] (fun x ix wr => ∃ i : Nat, i ≤ n ∧ ix = .int .i64 i ∧ ∃ O co, x = .slice O ((ms.take i).filter (isDue tick)).length co ∧ wr.ownsRow w0.heap.size 34 4 (.slice O ((ms.take i).filter (isDue tick)).length co) ((ms.take i).filter (isDue tick)).length (mcs ((ms.take i).filter (isDue tick))) ∧
    NetIs wr g d cb kb s r cut (cameAll came ((ms.take i).filter (isDue tick))) base A n cap ms sent lost told ∧ CameOk (cameAll came ((ms.take i).filter (isDue tick))) (c + i * 1000000) ∧ (cameAll came ((ms.take i).filter (isDue tick))).length ≤ 900000 + i ∧ Turn [kb] w0 wr) (fun _ i _ => n - (intOf i).toNat)
  case atStart => exact ⟨0, by omega, rfl, none, 0, rfl, World.ownsRow_nil _ _ _ _, by simpa [cameAll] using H0.out, by simpa [cameAll] using CO.out, by simpa [cameAll] using CL.out, Turn.refl _ _⟩
  case round =>
    obtain ⟨i, hi, rfl, O, co, rfl, oO, N, hco, hcl, hT⟩ := hrel
    obtain ⟨w1, rfl⟩ : ∃ wo : World, wo = wr := ⟨_, rfl⟩
    have ii0 : (0 : Int) ≤ (i : Int) := Int.natCast_nonneg _
    have HN := Lib.hid N
    have HO := Lib.hid oO
    have HCO := Lib.hid hco
    have HCL := Lib.hid hcl
    have BT1 := hT.blk BT (by have := HTB.out; simp; omega)
    have hz := hT.size
    clear N oO hco hcl
    by_cases hlt : i < n
    · have i1 : (i : Int) < (n : Int) := by omega
      have km : i < ms.length := by rw [HLN.out]; exact hlt
      obtain ⟨bA, oA, rfl, lA, m0, m1, m2, m3⟩ := mcs_at (Sl.of_own HN.out.row) km
      have hfs : (ms.take (i + 1)).filter (isDue tick) = (ms.take i).filter (isDue tick) ++ if isDue tick ms[i] then [ms[i]] else [] := by
        rw [List.take_succ_eq_append_getElem km, List.filter_append]
        congr 1
        by_cases hd : isDue tick ms[i] = true <;> simp [hd]
      have HFS := Lib.hid hfs
      obtain ⟨hmok, hmb⟩ := HN.out.mok ms[i] (List.getElem_mem km)
      have HMV := Lib.hid hmok.v
      have hmn := hmok.le
      have DC := Lib.hid (fun wz (hz : Turn [] w1 wz) => due_c tb tick ms[i] wz ((hz.cell (p := ⟨tb, 0, none⟩) BT1.lt (by simp)).trans (BT1.cell 0)) (Nat.lt_of_lt_of_le BT1.lt hz.size))
      have ed := enterDue
      clear hfs hmok hmb
      generalize ms[i] = m at *
      have T1 := (Turn.refl [] w1).alloc (.cells #[.int .i64 m.due, .int .i64 m.fr, .int .i64 m.dst, .slice m.A m.n m.c] 34)
      have BM := Blk.new w1 34 #[.int .i64 m.due, .int .i64 m.fr, .int .i64 m.dst, .slice m.A m.n m.c]
      have HCA := Lib.hid (DC.out _ T1)
      cases hp : isDue tick m with
      | false =>
        rw [hp] at HCA
        rw [hp] at HFS
        clear hp
        go_wp2_with fail
        refine HCA.out.mono ?_
        rintro e w2 ⟨rfl, hT2⟩
        have T12 := T1.trans hT2
        have FS := HFS.out
        simp only [Bool.false_eq_true, if_false, List.append_nil] at FS
        have FS' := Lib.hid FS
        clear FS
        go_wp2_with fail
        go_roundw
        case rel => exact ⟨i + 1, by omega, by go_num, O, co, by rw [FS'.out], by rw [FS'.out]; exact own_turnA HO.out T12 (by simp), by rw [FS'.out]; exact HN.out.turn T12 (by simp), by rw [FS'.out]; intro k; have := HCO.out k; push_cast; omega, by rw [FS'.out]; have := HCL.out; omega, hT.trans (T12.mono (by simp))⟩
        case measure => simp [intOf]; omega
      | true =>
        rw [hp] at HCA
        rw [hp] at HFS
        clear hp
        have FS := HFS.out
        simp only [if_true] at FS
        have FS' := Lib.hid FS
        clear FS
        have hol : ((ms.take i).filter (isDue tick)).length ≤ i := by
          have := List.length_filter_le (isDue tick) (ms.take i)
          rw [List.length_take] at this
          omega
        go_wp2_with fail
        refine HCA.out.mono ?_
        rintro e w2 ⟨rfl, hT2⟩
        have T12 := T1.trans hT2
        have BM2 := hT2.blk BM (by simp)
        have z0 := BM2.cell 0
        have z1 := BM2.cell 1
        have z2 := BM2.cell 2
        have z3 := BM2.cell 3
        have zl := BM2.lt
        have oO2 := Lib.hid (own_turnA HO.out T12 (by simp))
        have hOl := own_ltA HO.out
        have hz2 := T12.size
        have H0' := Lib.hid H0.out
        clear m0 m1 m2 m3
        go_wp2_with (at_builtin; refine wpList_append_sl elemM rfl _ _ rfl O _ co _ rfl (oO2.out.alloc _) (some ⟨w2.heap.size, 0, none⟩) 1 1 [.int .i64 m.due, .int .i64 m.fr, .int .i64 m.dst, .slice m.A m.n m.c] rfl (Sl.new _ #[.int .i64 m.due, .int .i64 m.fr, .int .i64 m.dst, .slice m.A m.n m.c] _) (by simp) (by simp [Value.oneCell']) (by omega) (by omega) (by simp; omega) ?_; intro O' co' w3 own3 hg3 hlie3)
        have T23 : Turn (blks O) w2 w3 := (((Turn.refl [] w2).alloc _).mono (by simp)).trans (grown_turn hg3)
        have hS : ∀ i ∈ blks O, base ≤ i ∧ i ∉ blks (some ⟨bA, oA, none⟩) ∧ ∀ m ∈ ms, i ∉ blks m.A := fun j hj => by
          have h1 := (hOl j hj).2
          refine ⟨by have := H0'.out.lo; omega, fun hm => by have := (own_ltA H0'.out.row j hm).1; omega, fun mm hmm hm => by have := (H0'.out.mok mm hmm).1.lt j hm; omega⟩
        have N3 := Lib.hid (((HN.out.turn T12 (by simp)).turnS T23 hS).turn ((Turn.refl [] w3).drew) (by simp))
        have BM3 := T23.blk BM2 (fun hm => by have := (hOl _ hm).1; omega)
        have y1 := BM3.cell 1
        have y2 := BM3.cell 2
        have y3 := BM3.cell 3
        have yl := BM3.lt
        obtain ⟨-, -, -, -, -, -, -, g7, -⟩ := N3.out.cells
        have gl3 := N3.out.lts.1
        obtain ⟨LK, v0, st, es1, clock1, ME, LK2, w4, ES, N4, T34⟩ := N3.out.came_entry HMV.out (by have := HCL.out; omega)
        have hpv := HCO.out (m.fr, m.dst)
        have hcadd := HCO.out.add hmn
        have HCA2 := Lib.hid hcadd
        have HN4 := Lib.hid N4
        have HT34 := Lib.hid T34
        have hlen4 := cameAdd_len (cameAll came ((ms.take i).filter (isDue tick))) m
        have HL4 := Lib.hid hlen4
        clear hcadd N4 T34 z0 z1 z2 z3 zl hlen4
        generalize (pget (cameAll came ((ms.take i).filter (isDue tick))) (m.fr, m.dst)).getD 0 = pv at *
        have sw : IntKind.i64.wrap (pv + (m.n : Int)) = pv + (m.n : Int) := IntWalk.i64_in _ (by omega)
        have hkm : w1.heap.size ≠ kb := by have := hlow.2.2.2; omega
        have hgk : g ≠ kb := hap.2.2.1
        have hgl3 : g < w3.heap.size := gl3
        have AE : ∀ wy, Turn [kb] w3 wy → (wy.cell? ⟨g, 7, none⟩ = some (.map (some kb)) ∧ wy.cell? ⟨w1.heap.size, 1, none⟩ = some (.int .i64 m.fr) ∧ wy.cell? ⟨w1.heap.size, 2, none⟩ = some (.int .i64 m.dst) ∧ wy.cell? ⟨w1.heap.size, 3, none⟩ = some (.slice m.A m.n m.c) ∧ Turn [kb] w3 wy) := fun wy hy =>
          ⟨(hy.cell (p := ⟨g, 7, none⟩) hgl3 (by simpa using hgk)).trans g7, (hy.cell yl (by simpa using hkm)).trans y1, (hy.cell yl (by simpa using hkm)).trans y2, (hy.cell yl (by simpa using hkm)).trans y3, hy⟩
        have AE' := Lib.hid AE
        have T30 : Turn [kb] w3 w3.drew := (Turn.refl _ w3).drew
        have T31 : Turn [kb] w3 (setBlock w3.drew kb (.map es1 clock1)) := T30.setBlock (.inl (by simp)) _
        have T32 : Turn [kb] w3 w4 := T30.trans HT34.out
        clear AE y1 y2 y3 g7
        go_region_held3 (fun wy => wy.cell? ⟨g, 7, none⟩ = some (.map (some kb)) ∧ wy.cell? ⟨w1.heap.size, 1, none⟩ = some (.int .i64 m.fr) ∧ wy.cell? ⟨w1.heap.size, 2, none⟩ = some (.int .i64 m.dst) ∧ wy.cell? ⟨w1.heap.size, 3, none⟩ = some (.slice m.A m.n m.c) ∧ Turn [kb] w3 wy)
          (first | exact AE'.out _ (by assumption)) (fail)
        all_goals
          go_wp2_with fail
          go_roundw
          case rel =>
            refine ⟨i + 1, by omega, by go_num, O', co', by rw [FS'.out, List.length_append]; rfl, ?_, ?_, ?_, ?_, ?_⟩
            · rw [FS'.out, mcs_append, List.length_append]
              exact own_turnA own3 T32 (fun j hj hm => by
                simp at hm
                subst hm
                have := (own_ltA own3 _ hj).2
                have := H0'.out.lts.2.2.2
                omega)
            · rw [FS'.out, cameAll_snoc]; exact HN4.out
            · rw [FS'.out, cameAll_snoc]
              intro kk
              have := HCA2.out kk
              push_cast
              omega
            · rw [FS'.out, cameAll_snoc]
              have := HL4.out
              have := HCL.out
              omega
            · exact (hT.trans (T12.mono (by simp))).andThen (((T23.mono (by intro x hx; simp [hx] : ∀ x ∈ blks O, x ∈ kb :: blks O))).trans (T32.mono (by simp))) (fun x hx => by
                simp at hx
                rcases hx with hx | hx
                · simp [hx]
                · exact .inr (hOl x hx).2)
          case measure => simp [intOf]; omega
    · obtain rfl : i = n := by omega
      have i1 : ¬ (i : Int) < (i : Int) := by omega
      have htk : ms.take i = ms := List.take_of_length_le (by rw [HLN.out]; exact Nat.le_refl _)
      rw [htk] at HN HO HCO HCL
      rw [htk]
      have N1 := HN.out
      obtain ⟨-, -, -, -, -, -, c6, -, -, -, c10⟩ := N1.cells
      have gl1 := N1.lts.1
      have ed := enterDue
      clear N1
      have HCT := Lib.hid (And.intro c10 gl1)
      clear c10
      have DC := Lib.hid (fun wz (hz : Turn (blks A) w1 wz) (m : Ml) => due_c tb tick m wz ((hz.cell (p := ⟨tb, 0, none⟩) BT1.lt (fun hm => by have h1 := (own_ltA HH.out.row _ hm).1; have h2 := HTB.out; simp at h1; omega)).trans (BT1.cell 0)) (Nat.lt_of_lt_of_le BT1.lt hz.size))
      have hdel : Calls Try.prog 32 #[.slice A i cap, .func (.func 31) #[] #[.pointer (some ⟨tb, 0, none⟩)]] w1 (fun e w2 => ∃ n' cap', e = .returned (.slice A n' cap') ∧ w2.ownsRow base 34 4 (.slice A n' cap') n' (mcs (ms.filter (fun m => !isDue tick m))) ∧ Turn (blks A) w1 w2) := by
        rcases HN.out.row.2 with ⟨hv, h0⟩ | ⟨ga, cap0, cur, hv, -⟩
        · cases hv
          have hms : ms = [] := List.eq_nil_of_length_eq_zero (by rw [HLN.out])
          refine (deleteMnil_c _ (.pointer (some ⟨tb, 0, none⟩)) (isDue tick) w1 ed (fun wz hz m => DC.out wz (hz.mono (by simp)) m)).mono ?_
          rintro e w2 ⟨rfl, hT2⟩
          exact ⟨0, 0, rfl, by rw [hms]; exact World.ownsRow_nil _ _ _ _, hT2.mono (by simp)⟩
        · cases hv
          refine (deleteM_c _ (.pointer (some ⟨tb, 0, none⟩)) (isDue tick) base ga i cap ms w1 HN.out.row (by omega) ed (fun wz hz m => DC.out wz (hz.mono (by simp [blks])) m)).mono ?_
          rintro e w2 ⟨n', rfl, -, hown, hT2⟩
          exact ⟨n', cap, rfl, hown, hT2.mono (by simp [blks])⟩
      have HDEL := Lib.hid hdel
      clear hdel
      go_wp2_with fail
      refine HDEL.out.mono ?_
      rintro e w2 ⟨n', cap', rfl, row2, T12⟩
      have hA1 := own_ltA HN.out.row
      have hgA : g ∉ blks A := fun hm => by have := (hA1 g hm).2; omega
      have B2 := T12.blk HN.out.blk hgA
      have c6' := B2.cell 6
      have f6 := B2.frozen 6
      have gl2 := B2.lt
      have HR2 := Lib.hid row2
      have hOl := own_ltA HO.out
      have T02 := T12.size
      have HH0 := Lib.hid H0.out
      have hOA : ∀ j ∈ blks O, base ≤ j ∧ j ∉ blks A ∧ ∀ m ∈ ms, j ∉ blks m.A := fun j hj => by
        have h1 := (hOl j hj).2
        exact ⟨by have := HH0.out.lo; omega, fun hm => by have := (own_ltA HH0.out.row j hm).1; omega, fun mm hmm hm => by have := (HH0.out.mok mm hmm).1.lt j hm; omega⟩
      have HOA := Lib.hid hOA
      clear row2 hOA c6
      go_wp2_with fail
      clear c6' f6
      have T23 : Turn [g] w2 (w2.setCell ⟨g, 6, none⟩ (.slice A n' cap')) := (Turn.refl [g] w2).setCell (.inl (by simp)) _
      have hgO : g ∉ blks O := fun hm => by have := (HOA.out g hm).1; omega
      have HO3 := Lib.hid (own_turnA (own_turnA HO.out T12 (fun j hj hm => (HOA.out j hj).2.1 hm)) T23 (fun j hj hm => hgO (by simp at hm; rw [← hm]; exact hj)))
      have B3 := B2.set_ 6 (.slice A n' cap')
      have HB3 := Lib.hid B3
      have EX := fun (v : Int) (w4 : World) (hT4 : Turn (blks O) (w2.setCell ⟨g, 6, none⟩ (.slice A n' cap')) w4) => HN.out.dueEnd T12 HR2.out hT4 HOA.out v
      have HEX := Lib.hid EX
      clear B3 EX
      generalize hw3 : w2.setCell ⟨g, 6, none⟩ (.slice A n' cap') = w3 at *
      have hsort : Calls Try.prog 33 #[.slice O (ms.filter (isDue tick)).length co, cmpV] w3 (fun e w4 => e = .returned (.tuple #[]) ∧ w4.ownsRow w0.heap.size 34 4 (.slice O (ms.filter (isDue tick)).length co) (ms.filter (isDue tick)).length (mcs (srt Ml.due (ms.filter (isDue tick)))) ∧ Turn (blks O) w3 w4) := by
        rcases HO3.out.2 with ⟨hv, h0⟩ | ⟨go, cap0, cur, hv, -⟩
        · have hf : ms.filter (isDue tick) = [] := List.eq_nil_of_length_eq_zero h0
          rw [hf] at hv ⊢
          injection hv with v1 v2 v3
          subst v1
          subst v3
          refine (sortNil_c w3).mono ?_
          rintro e w4 ⟨rfl, hT4⟩
          exact ⟨rfl, World.ownsRow_nil _ _ _ _, hT4.mono (by simp)⟩
        · injection hv with v1 v2 v3
          subst v1
          have hnn : (ms.filter (isDue tick)).length ≤ 1000000 := by have := List.length_filter_le (isDue tick) ms; have := HLN.out; omega
          refine (sortS_c go w0.heap.size (ms.filter (isDue tick)).length co (ms.filter (isDue tick)) w3 HO3.out (fun m hm => (HN.out.mok m (List.mem_filter.1 hm).1).1.v.1) hnn).mono ?_
          rintro e w4 ⟨rfl, R4, hT4⟩
          exact ⟨rfl, R4, hT4.mono (by simp [blks])⟩
      have HSO := Lib.hid hsort
      clear hsort
      have hfl : ((ms.filter (isDue tick)).length : Int) ≤ 1000000 := by have := List.length_filter_le (isDue tick) ms; have := HLN.out; omega
      go_wp2_with fail
      refine HSO.out.mono ?_
      rintro e w4 ⟨rfl, row4, hT4⟩
      have B4 := hT4.blk HB3.out hgO
      have c10' := B4.cell 10
      have f10 := B4.frozen 10
      have gl4 := B4.lt
      have HR4 := Lib.hid row4
      have HT4 := Lib.hid hT4
      have sw : IntKind.i64.wrap (told + ((ms.filter (isDue tick)).length : Int)) = told + ((ms.filter (isDue tick)).length : Int) := IntWalk.i64_in _ (by omega)
      simp only [Array.getElem?_setIfInBounds_ne (by decide : (6 : Nat) ≠ 10)] at c10'
      have c10'' : w4.cell? ⟨g, 10, none⟩ = some (.int .i64 told) := by simpa using c10'
      have HOO := Lib.hid hgO
      clear row4 c10' B4 hT4
      go_wp2_with fail
      go_ret
      obtain ⟨N5, T5⟩ := HEX.out (told + ((ms.filter (isDue tick)).length : Int)) w4 HT4.out
      have T45 : Turn [g] w4 (w4.setCell ⟨g, 10, none⟩ (.int .i64 (told + ((ms.filter (isDue tick)).length : Int)))) := (Turn.refl [g] w4).setCell (.inl (by simp)) _
      refine ⟨O, co, n', cap', by simp, ?_, N5, ?_, ?_⟩
      · exact own_down (own_turnA HR4.out T45 (fun j hj hm => HOO.out (by simp at hm; rw [← hm]; exact hj))) (by omega)
      · intro m hm
        have hk := HN.out.mok m (List.mem_filter.1 hm).1
        refine hk.1.turn T5 (fun j hj hmm => ?_)
        simp at hmm
        rcases hmm with hmm | hmm | hmm
        · subst hmm; have := (hk.2 _ hj).1; omega
        · exact (HOA.out j hmm).2.2 m (List.mem_filter.1 hm).1 hj
        · exact (hk.2 j hj).2 hmm
      · refine (T0.mono (by simp)).andThen ((hT.mono (by simp : ∀ x ∈ [kb], x ∈ kb :: (g :: blks O ++ blks A))).trans (T5.mono (by intro x hx; simp at hx ⊢; exact .inr hx))) (fun x hx => ?_)
        simp at hx
        rcases hx with hx | hx | hx | hx
        · simp [hx]
        · simp [hx]
        · exact .inr (by have := (hOl x hx).2; omega)
        · simp [hx]
end
end Go.Proofs.Ytiijgokgojjocaa
