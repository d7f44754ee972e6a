/- The reference's net (layer 30): what lies where; Right, Next, below, isCut. -/
import Derived.Test.YtiijgokgojjocaaNetRule
import Derived.Test.YtiijgokgojjocaaNetCut
import Derived.BigQuiet
namespace Go.Proofs.Ytiijgokgojjocaa
open Go.RowKit Go.ChangeMaps Go.WideMaps Go.MapKept Go.WideShapes

/-- Pairs in a row. -/
def p2s : List (Int × Int) → List Value
  | [] => []
  | p :: l => .int .i64 p.1 :: .int .i64 p.2 :: p2s l
theorem p2s_len : ∀ l : List (Int × Int), (p2s l).length = l.length * 2
  | [] => rfl
  | m :: l => by rw [p2s, List.length_cons, List.length_cons, p2s_len l]; simp; omega
theorem p2s_append : ∀ a b : List (Int × Int), p2s (a ++ b) = p2s a ++ p2s b
  | [], b => rfl
  | m :: a, b => by rw [List.cons_append, p2s, p2s, p2s_append a b]; rfl
theorem p2s_get : ∀ (ls : List (Int × Int)) (k : Nat) (hk : k < ls.length) (i : Nat), i < 2 → (p2s ls)[k * 2 + i]? = ([.int .i64 ls[k].1, .int .i64 ls[k].2] : List Value)[i]?
  | [], k, hk, i, hi => by simp at hk
  | m :: l, 0, hk, i, hi => by
    match i, hi with
    | 0, _ => rfl
    | 1, _ => rfl
  | m :: l, k + 1, hk, i, hi => by
    have e : (k + 1) * 2 + i = (k * 2 + i) + 1 + 1 := by omega
    rw [p2s, e, List.getElem?_cons_succ, List.getElem?_cons_succ, p2s_get l k (by simpa using hk) i hi]
    simp
theorem p2s_at {w : World} {L : Option Addr} {ls : List (Int × Int)} (h : Sl w L (p2s ls)) {k : Nat} (hk : k < ls.length) :
    ∃ b off, L = some ⟨b, off, none⟩ ∧ b < w.heap.size ∧ w.cell? ⟨b, off + k * 2, none⟩ = some (.int .i64 ls[k].1) ∧ w.cell? ⟨b, off + k * 2 + 1, none⟩ = some (.int .i64 ls[k].2) := by
  obtain ⟨b, off, hA, hlt, hc⟩ := h (by rw [p2s_len]; omega)
  refine ⟨b, off, hA, hlt, ?_, ?_⟩
  · have := hc (k * 2 + 0) _ (p2s_get ls k hk 0 (by omega))
    simpa using this
  · have := hc (k * 2 + 1) _ (p2s_get ls k hk 1 (by omega))
    rw [← Nat.add_assoc] at this
    exact this
theorem infoP2 : (Try.prog.info? 81).map (fun i => (i.zero, i.size, i.bytes)) = some (some (.agg #[.int .i64 0, .int .i64 0]), 2, 16) := by kernel_rfl
theorem elemP2 : ElemT Try.prog 51 81 (.agg #[.int .i64 0, .int .i64 0]) 2 16 := ⟨Try.underlying51, info_parts infoP2, rfl, by decide⟩
theorem infoRM : (Try.prog.info? 63).map (fun i => (i.zero, i.size, i.bytes)) = some (some (.agg #[.int .i64 0, .int .i64 0, .int .i64 0, .slice none 0 0]), 4, 48) := by kernel_rfl
theorem elemRM : ElemT Try.prog 52 63 (.agg #[.int .i64 0, .int .i64 0, .int .i64 0, .slice none 0 0]) 4 48 := ⟨Try.underlying52, info_parts infoRM, rfl, by decide⟩

/-- The cuts, the smaller first. -/
def cutP (cl : List (Int × Int)) : List (Int × Int) := cl.map (fun p => pairOf p.1 p.2)
theorem pairOf_eq {a b c d : Int} : pairOf a b = pairOf c d ↔ (a = c ∧ b = d) ∨ (a = d ∧ b = c) := by
  unfold pairOf
  rw [Prod.mk.injEq]
  omega
/-- A mail without bytes lies nowhere. -/
def Ml.norm (x : Ml) : Ml := ⟨x.due, x.fr, x.dst, if x.xs = [] then none else x.A, x.n, x.c, x.xs⟩
theorem norm_blks {x : Ml} {i : Nat} (h : i ∈ blks x.norm.A) : i ∈ blks x.A := by
  unfold Ml.norm at h
  simp only at h
  split at h
  · simp [blks] at h
  · exact h
theorem norm_ne {x : Ml} {i : Nat} (h : i ∈ blks x.norm.A) : x.xs ≠ [] := by
  unfold Ml.norm at h
  simp only at h
  split at h
  · simp [blks] at h
  · assumption
theorem MlOk.norm {w : World} {x : Ml} (h : MlOk w x) : MlOk w x.norm :=
  ⟨by
    unfold Ml.norm
    simp only
    split
    · rename_i h0
      rw [h0]
      exact Sl.nil _ _
    · exact h.sl, h.len, h.le, fun i hi => h.lt i (norm_blks hi), h.v⟩
theorem MlOk.normSl {w : World} {x : Ml} (h : MlOk w x.norm) : Sl w x.A (u8s x.xs) := by
  by_cases h0 : x.xs = []
  · rw [h0]; exact Sl.nil _ _
  · have h1 := h.sl
    unfold Ml.norm at h1
    simp only [if_neg h0] at h1
    exact h1
/-- A mail's bytes lie there. -/
structure RMl (w : World) (S : List Nat) (x : Ml) : Prop where
  ok : MlOk w x.norm
  off : ∀ i ∈ blks x.norm.A, i ∉ S
theorem RMl.of {w : World} {S : List Nat} {x : Ml} (h : MlOk w x) (ho : ∀ i ∈ blks x.A, i ∉ S) : RMl w S x := ⟨h.norm, fun i hi => ho i (norm_blks hi)⟩
/-- The reference's net at its block. -/
structure RNetIs (w : World) (m : Nat) (s : Int) (r : Rl) (C : Option Addr) (nc kc : Nat) (cl : List (Int × Int)) (A : Option Addr) (n cap : Nat) (ms : List Ml) (B : Option Addr) (nb kb : Nat) (cs : List Ml) (sent lost told : Int) : Prop where
  blk : Blk w m 54 #[.int .u64 s, .int .i64 r.lose, .int .i64 r.twice, .int .i64 r.bend, .int .i64 r.late, .slice C nc kc, .slice A n cap, .slice B nb kb, .int .i64 sent, .int .i64 lost, .int .i64 told]
  cuts : ∃ base, m < base ∧ w.ownsRow base 81 2 (.slice C nc kc) nc (p2s cl)
  mails : ∃ base, m < base ∧ w.ownsRow base 63 4 (.slice A n cap) n (mcs ms)
  came : ∃ base, m < base ∧ w.ownsRow base 63 4 (.slice B nb kb) nb (mcs cs)
  apart : (∀ i ∈ blks C, i ∉ blks A ∧ i ∉ blks B) ∧ ∀ i ∈ blks A, i ∉ blks B
  bytes : ∀ x, x ∈ ms ∨ x ∈ cs → RMl w (m :: (blks A ++ (blks B ++ blks C))) x
  rok : RlOk r
section
variable {w w' : World} {m : Nat} {s : Int} {r : Rl} {C : Option Addr} {nc kc : Nat} {cl : List (Int × Int)} {A : Option Addr} {n cap : Nat} {ms : List Ml} {B : Option Addr} {nb kb : Nat} {cs : List Ml} {sent lost told : Int}
theorem RNetIs.cells (h : RNetIs w m s r C nc kc cl A n cap ms B nb kb cs sent lost told) :
    w.cell? ⟨m, 0, none⟩ = some (.int .u64 s) ∧ w.cell? ⟨m, 1, none⟩ = some (.int .i64 r.lose) ∧ w.cell? ⟨m, 2, none⟩ = some (.int .i64 r.twice) ∧ w.cell? ⟨m, 3, none⟩ = some (.int .i64 r.bend) ∧ w.cell? ⟨m, 4, none⟩ = some (.int .i64 r.late) ∧
    w.cell? ⟨m, 5, none⟩ = some (.slice C nc kc) ∧ w.cell? ⟨m, 6, none⟩ = some (.slice A n cap) ∧ w.cell? ⟨m, 7, none⟩ = some (.slice B nb kb) ∧ w.cell? ⟨m, 8, none⟩ = some (.int .i64 sent) ∧ w.cell? ⟨m, 9, none⟩ = some (.int .i64 lost) ∧ w.cell? ⟨m, 10, none⟩ = some (.int .i64 told) ∧ m < w.heap.size :=
  ⟨h.blk.cell 0, h.blk.cell 1, h.blk.cell 2, h.blk.cell 3, h.blk.cell 4, h.blk.cell 5, h.blk.cell 6, h.blk.cell 7, h.blk.cell 8, h.blk.cell 9, h.blk.cell 10, h.blk.lt⟩
theorem RNetIs.lens (h : RNetIs w m s r C nc kc cl A n cap ms B nb kb cs sent lost told) : cl.length = nc ∧ ms.length = n ∧ cs.length = nb := by
  obtain ⟨b1, -, h1⟩ := h.cuts
  obtain ⟨b2, -, h2⟩ := h.mails
  obtain ⟨b3, -, h3⟩ := h.came
  have e1 := h1.1
  have e2 := h2.1
  have e3 := h3.1
  rw [p2s_len] at e1
  rw [mcs_len] at e2 e3
  omega
theorem RNetIs.sls (h : RNetIs w m s r C nc kc cl A n cap ms B nb kb cs sent lost told) : Sl w C (p2s cl) ∧ Sl w A (mcs ms) ∧ Sl w B (mcs cs) := by
  obtain ⟨b1, -, h1⟩ := h.cuts
  obtain ⟨b2, -, h2⟩ := h.mails
  obtain ⟨b3, -, h3⟩ := h.came
  exact ⟨Sl.of_own h1, Sl.of_own h2, Sl.of_own h3⟩
/-- The blocks of the net. -/
theorem RNetIs.blks_ok (h : RNetIs w m s r C nc kc cl A n cap ms B nb kb cs sent lost told) : (∀ i ∈ blks A ++ (blks B ++ blks C), i < w.heap.size ∧ i ≠ m) := by
  obtain ⟨b1, g1, h1⟩ := h.cuts
  obtain ⟨b2, g2, h2⟩ := h.mails
  obtain ⟨b3, g3, h3⟩ := h.came
  intro i hi
  simp only [List.mem_append] at hi
  rcases hi with hi | hi | hi
  · have := own_ltA h2 i hi; omega
  · have := own_ltA h3 i hi; omega
  · have := own_ltA h1 i hi; omega
/-- A turn elsewhere. -/
theorem RNetIs.turn (h : RNetIs w m s r C nc kc cl A n cap ms B nb kb cs sent lost told) {S : List Nat} (hT : Turn S w w') (h0 : m ∉ S) (hS : ∀ i ∈ blks A ++ (blks B ++ blks C), i ∉ S) (hB : ∀ x, x ∈ ms ∨ x ∈ cs → ∀ i ∈ blks x.norm.A, i ∉ S) : RNetIs w' m s r C nc kc cl A n cap ms B nb kb cs sent lost told := by
  obtain ⟨b1, g1, h1⟩ := h.cuts
  obtain ⟨b2, g2, h2⟩ := h.mails
  obtain ⟨b3, g3, h3⟩ := h.came
  exact ⟨hT.blk h.blk h0, ⟨b1, g1, own_turnA h1 hT (fun i hi => hS i (by simp [hi]))⟩, ⟨b2, g2, own_turnA h2 hT (fun i hi => hS i (by simp [hi]))⟩, ⟨b3, g3, own_turnA h3 hT (fun i hi => hS i (by simp [hi]))⟩, h.apart,
    fun x hx => ⟨(h.bytes x hx).ok.turn hT (hB x hx), (h.bytes x hx).off⟩, h.rok⟩
theorem RNetIs.turn0 (h : RNetIs w m s r C nc kc cl A n cap ms B nb kb cs sent lost told) (hT : Turn [] w w') : RNetIs w' m s r C nc kc cl A n cap ms B nb kb cs sent lost told := h.turn hT (by simp) (by simp) (by simp)
/-- A cell of the net's block is set, which is none of the rows. -/
theorem RNetIs.off_m (h : RNetIs w m s r C nc kc cl A n cap ms B nb kb cs sent lost told) (hT : Turn [m] w w') : (∃ base, m < base ∧ w'.ownsRow base 81 2 (.slice C nc kc) nc (p2s cl)) ∧ (∃ base, m < base ∧ w'.ownsRow base 63 4 (.slice A n cap) n (mcs ms)) ∧ (∃ base, m < base ∧ w'.ownsRow base 63 4 (.slice B nb kb) nb (mcs cs)) ∧
    ∀ x, x ∈ ms ∨ x ∈ cs → RMl w' (m :: (blks A ++ (blks B ++ blks C))) x := by
  have hb := h.blks_ok
  obtain ⟨b1, g1, h1⟩ := h.cuts
  obtain ⟨b2, g2, h2⟩ := h.mails
  obtain ⟨b3, g3, h3⟩ := h.came
  have off : ∀ i ∈ blks A ++ (blks B ++ blks C), i ∉ [m] := fun i hi hm => by simp at hm; exact (hb i hi).2 hm
  exact ⟨⟨b1, g1, own_turnA h1 hT (fun i hi => off i (by simp [hi]))⟩, ⟨b2, g2, own_turnA h2 hT (fun i hi => off i (by simp [hi]))⟩, ⟨b3, g3, own_turnA h3 hT (fun i hi => off i (by simp [hi]))⟩,
    fun x hx => ⟨(h.bytes x hx).ok.turn hT (fun i hi hm => (h.bytes x hx).off i hi (by simp at hm; simp [hm])), (h.bytes x hx).off⟩⟩
theorem RNetIs.setS (h : RNetIs w m s r C nc kc cl A n cap ms B nb kb cs sent lost told) (s' : Int) : RNetIs (w.setCell ⟨m, 0, none⟩ (.int .u64 s')) m s' r C nc kc cl A n cap ms B nb kb cs sent lost told ∧ Turn [m] w (w.setCell ⟨m, 0, none⟩ (.int .u64 s')) := by
  have T : Turn [m] w (w.setCell ⟨m, 0, none⟩ (.int .u64 s')) := (Turn.refl [m] w).setCell (.inl (by simp)) _
  obtain ⟨o1, o2, o3, o4⟩ := h.off_m T
  exact ⟨⟨by simpa using h.blk.set_ 0 (.int .u64 s'), o1, o2, o3, h.apart, o4, h.rok⟩, T⟩
theorem RNetIs.setSent (h : RNetIs w m s r C nc kc cl A n cap ms B nb kb cs sent lost told) (v : Int) : RNetIs (w.setCell ⟨m, 8, none⟩ (.int .i64 v)) m s r C nc kc cl A n cap ms B nb kb cs v lost told ∧ Turn [m] w (w.setCell ⟨m, 8, none⟩ (.int .i64 v)) := by
  have T : Turn [m] w (w.setCell ⟨m, 8, none⟩ (.int .i64 v)) := (Turn.refl [m] w).setCell (.inl (by simp)) _
  obtain ⟨o1, o2, o3, o4⟩ := h.off_m T
  exact ⟨⟨by simpa using h.blk.set_ 8 (.int .i64 v), o1, o2, o3, h.apart, o4, h.rok⟩, T⟩
theorem RNetIs.setLost (h : RNetIs w m s r C nc kc cl A n cap ms B nb kb cs sent lost told) (v : Int) : RNetIs (w.setCell ⟨m, 9, none⟩ (.int .i64 v)) m s r C nc kc cl A n cap ms B nb kb cs sent v told ∧ Turn [m] w (w.setCell ⟨m, 9, none⟩ (.int .i64 v)) := by
  have T : Turn [m] w (w.setCell ⟨m, 9, none⟩ (.int .i64 v)) := (Turn.refl [m] w).setCell (.inl (by simp)) _
  obtain ⟨o1, o2, o3, o4⟩ := h.off_m T
  exact ⟨⟨by simpa using h.blk.set_ 9 (.int .i64 v), o1, o2, o3, h.apart, o4, h.rok⟩, T⟩
end
set_option maxRecDepth 100000 in
set_option maxHeartbeats 1000000 in
theorem rRight30_c (r : Rl) (w : World) : Calls Try.prog 23 #[.agg #[.int .i64 r.lose, .int .i64 r.twice, .int .i64 r.bend, .int .i64 r.late]] w fun e w' => e = .returned (.bool (decide (RlOk r))) ∧ Turn [] w w' := by
  obtain ⟨a, b, c, d⟩ := r
  have hR : Hid (decide (RlOk ⟨a, b, c, d⟩) = (decide (0 ≤ a) && (decide (a ≤ 100) && (decide (0 ≤ b) && (decide (b ≤ 100) && (decide (0 ≤ c) && (decide (c ≤ 100) && (decide (1 ≤ d) && decide (d ≤ 64)))))))) ) := by
    show _ = _
    simp only [← Bool.decide_and]
    apply decide_eq_decide.2
    unfold RlOk
    simp only
    constructor
    · intro h
      omega
    · intro h
      omega
  simp only
  go_enter Try.func23, Try.ntmps23
  go_wp2_with fail
  all_goals
    go_ret
    exact ⟨by rw [hR.out]; first | (simp; done) | (simp; intros; omega) | (simp [*]; done), (Turn.refl _ _).alloc _⟩
theorem tq30 (x k : Int) (hk : 0 < k) : IntKind.u64.wrap ((IntKind.u64.wrap x).tdiv k) = IntKind.u64.wrap x / k := by
  have h := u64_range x
  have h1 : (IntKind.u64.wrap x).tdiv k = IntKind.u64.wrap x / k := Int.tdiv_eq_ediv_of_nonneg h.1
  have h2 : 0 ≤ IntKind.u64.wrap x / k := Int.ediv_nonneg h.1 (by omega)
  have h3 : IntKind.u64.wrap x / k ≤ IntKind.u64.wrap x := Int.ediv_le_self k h.1
  rw [h1]
  generalize IntKind.u64.wrap x / k = q at *
  rw [IntKind.wrap_u64]
  omega
section
variable {w w' : World} {m : Nat} {s : Int} {r : Rl} {C : Option Addr} {nc kc : Nat} {cl : List (Int × Int)} {A : Option Addr} {n cap : Nat} {ms : List Ml} {B : Option Addr} {nb kb : Nat} {cs : List Ml} {sent lost told : Int}
set_option maxRecDepth 100000 in
set_option maxHeartbeats 1000000 in
theorem rNext_c (h : RNetIs w m s r C nc kc cl A n cap ms B nb kb cs sent lost told) :
    Calls Try.prog 44 #[.pointer (some ⟨m, 0, none⟩)] w fun e w' => e = .returned (.int .u64 (dval (dstep s))) ∧ RNetIs w' m (dstep s) r C nc kc cl A n cap ms B nb kb cs sent lost told ∧ Turn [m] w w' := by
  have c0 := h.blk.cell 0
  have f0 := h.blk.frozen 0
  have S := Lib.hid (h.setS (dstep s))
  clear h
  go_enter Try.func44, Try.ntmps44
  go_wp2_with fail
  go_ret
  exact ⟨by unfold dval dmul dstep; simp only [tq30 _ _ (by decide : (0 : Int) < 1073741824), tq30 _ _ (by decide : (0 : Int) < 134217728), tq30 _ _ (by decide : (0 : Int) < 2147483648)]; rfl, S.out.1, S.out.2⟩
set_option maxRecDepth 100000 in
set_option maxHeartbeats 1000000 in
theorem rBelow_c (h : RNetIs w m s r C nc kc cl A n cap ms B nb kb cs sent lost told) (k : Int) (h1 : 1 ≤ k) (h2 : k ≤ 9223372036854775807) :
    Calls Try.prog 38 #[.pointer (some ⟨m, 0, none⟩), .int .i64 k] w fun e w' => e = .returned (.int .i64 (dbelow k s)) ∧ RNetIs w' m (dstep s) r C nc kc cl A n cap ms B nb kb cs sent lost told ∧ Turn [m] w w' := by
  have hb := dbelow_range (s := s) h1
  have hw : IntKind.u64.wrap k = k := by rw [IntKind.wrap_u64]; omega
  have hn : Hid (wrap64 (dval (dstep s) % k) = dbelow k s) := IntWalk.wrap64_in _ ⟨by unfold dbelow at hb; omega, by unfold dbelow at hb; omega⟩
  have hr := dval_range (dstep s)
  have ml := h.blk.lt
  have NX := Lib.hid (rNext_c h)
  have HW := Lib.hid hw
  clear h hb hw
  go_enter Try.func38, Try.ntmps38
  go_wp2_with fail
  refine NX.out.mono ?_
  rintro e w1 ⟨rfl, R1, hT⟩
  generalize dval (dstep s) = v at *
  have hw := HW.out
  go_wp2_with fail
  go_ret
  exact ⟨by show Ending.returned (Value.int IntKind.i64 (wrap64 (v % k))) = _; rw [hn.out], R1, hT⟩
set_option maxRecDepth 100000 in
set_option maxHeartbeats 2000000 in
theorem rIsCut_c (h : RNetIs w m s r C nc kc cl A n cap ms B nb kb cs sent lost told) (hl : nc ≤ 1000000) (a b : Int) :
    Calls Try.prog 37 #[.pointer (some ⟨m, 0, none⟩), .int .i64 a, .int .i64 b] w fun e w' => e = .returned (.bool (decide (pairOf a b ∈ cutP cl))) ∧ Turn [] w w' := by
  have H := Lib.hid h
  have HN := Lib.hid h.lens.1
  clear h
  obtain ⟨-, -, -, -, -, c5, -, -, -, -, -, ml⟩ := H.out.cells
  go_enter Try.func37, Try.ntmps37
  go_wp2_with fail
  go_loopw [7] (fun ix wr => ∃ i : Nat, i ≤ nc ∧ ix = .int .i64 ((i : Nat) : Int) ∧ pairOf a b ∉ cutP (cl.take i) ∧ Turn [] w wr) (fun ix _ => nc - (intOf ix).toNat)
  case atStart => exact ⟨0, by omega, rfl, by simp [cutP], Turn.refl _ _⟩
  case round =>
    obtain ⟨i, hi, rfl, hno, hT⟩ := hrel
    obtain ⟨wx, rfl⟩ : ∃ wo : World, wo = wr := ⟨_, rfl⟩
    have i0 : (0 : Int) ≤ (i : Int) := Int.natCast_nonneg _
    have H2 := H.out.turn0 hT
    obtain ⟨-, -, -, -, -, c5, -, -, -, -, -, ml⟩ := H2.cells
    by_cases hlt : i < nc
    · have i1 : (i : Int) < (nc : Int) := by omega
      have kx : i < cl.length := by have := HN.out; omega
      obtain ⟨cb, co, rfl, cbl, y0, y1⟩ := p2s_at H2.sls.1 kx
      have hmem := List.getElem_mem kx
      have htk : cutP (cl.take (i + 1)) = cutP (cl.take i) ++ [pairOf cl[i].1 cl[i].2] := by
        unfold cutP
        rw [List.take_succ_eq_append_getElem kx, List.map_append]
        rfl
      have HTK := Lib.hid htk
      have HMM : Hid (pairOf cl[i].1 cl[i].2 ∈ cutP cl) := List.mem_map.2 ⟨_, hmem, rfl⟩
      have HNO := Lib.hid hno
      clear H2 hmem htk hno
      generalize cl[i].1 = x at *
      generalize cl[i].2 = y at *
      by_cases h1 : x = a ∧ y = b
      · have hv := Lib.hid (show decide (pairOf a b ∈ cutP cl) = true from decide_eq_true (by rw [← h1.1, ← h1.2]; exact HMM.out))
        have g1 : (x == a) = true := by simpa using h1.1
        have g2 : (y == b) = true := by simpa using h1.2
        clear h1
        go_wp2_with fail
        go_ret
        exact ⟨by rw [hv.out]; simp, hT.alloc _⟩
      · by_cases h2 : x = b ∧ y = a
        · have hv := Lib.hid (show decide (pairOf a b ∈ cutP cl) = true from decide_eq_true (by rw [show pairOf a b = pairOf x y from pairOf_eq.2 (.inr ⟨h2.2.symm, h2.1.symm⟩)]; exact HMM.out))
          have g1 : (x == a) = false := by
            have : ¬ x = a := fun h => h1 ⟨h, by omega⟩
            simpa using this
          have g3 : (x == b) = true := by simpa using h2.1
          have g4 : (y == a) = true := by simpa using h2.2
          clear h1 h2
          go_wp2_with fail
          go_ret
          exact ⟨by rw [hv.out]; simp, hT.alloc _⟩
        · have HN2 : Hid (pairOf a b ∉ cutP (cl.take (i + 1))) := by
            show ¬ _
            rw [HTK.out, List.mem_append, List.mem_singleton, pairOf_eq]
            intro h
            rcases h with h | h | h
            · exact HNO.out h
            · exact h1 ⟨h.1.symm, h.2.symm⟩
            · exact h2 ⟨h.2.symm, h.1.symm⟩
          have hc : ((x == a) = false ∨ ((x == a) = true ∧ (y == b) = false)) ∧ ((x == b) = false ∨ ((x == b) = true ∧ (y == a) = false)) := by
            constructor
            · by_cases h : x = a
              · exact .inr ⟨by simpa using h, by simpa using fun h3 => h1 ⟨h, h3⟩⟩
              · exact .inl (by simpa using h)
            · by_cases h : x = b
              · exact .inr ⟨by simpa using h, by simpa using fun h3 => h2 ⟨h, h3⟩⟩
              · exact .inl (by simpa using h)
          clear h1 h2
          obtain ⟨ha, hb⟩ := hc
          rcases ha with g1 | ⟨g1, g2⟩
          all_goals
            rcases hb with g3 | ⟨g3, g4⟩
            all_goals
              go_wp2_with fail
              go_roundw
              case rel => exact ⟨i + 1, by omega, by go_num, HN2.out, hT.alloc _⟩
              case measure => simp [intOf]; omega
    · obtain rfl : i = nc := by omega
      have i1 : ¬ (i : Int) < (i : Int) := by omega
      have hfin : cl.take i = cl := List.take_of_length_le (by have := HN.out; omega)
      rw [hfin] at hno
      have hv := Lib.hid (decide_eq_false hno)
      clear H2 hno
      go_wp2_with fail
      go_ret
      exact ⟨by rw [hv.out]; simp, hT⟩
end
end Go.Proofs.Ytiijgokgojjocaa
