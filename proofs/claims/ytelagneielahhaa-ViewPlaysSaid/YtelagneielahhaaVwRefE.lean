/- The reference's view: Drop. -/
import Derived.Test.YtelagneielahhaaVwRefD
namespace Go.Proofs.Ytelagneielahhaa
open Go.RowKit Go.ChangeMaps Go.MapKept

def midS (A : Option Addr) (c l sz : Nat) : Option Addr := if c = l then A else A.map (·.add (l * sz))
theorem run_slice_tail {P : Program} {t e : TypeId} {i : TypeInfo} {sz : Nat} (ht : P.underlying t = some (.slice e)) (hi : P.info? e = some i) (hsz : i.size = sz) (w : World) (a : Option Addr) (n c l : Nat) (k : IntKind) (h1 : l ≤ n) (h3 : n ≤ c) :
    (Instr.slice t (.slice a n c) (some (.int k (l : Int))) none none).run P w = .ok (.slice (midS a c l sz) (n - l) (c - l)) w := by
  have e2 : (l : Int) ≤ (n : Int) := by omega
  have e3 : (n : Int) ≤ (c : Int) := by omega
  simp [Instr.slice, run_underlying ht, Instr.sliceBounds, Instr.sliceBound, asIntOf, e2, e3, sizeOf, typeInfo, hi, hsz, midS]
  intro hh
  omega
theorem ecs_drop : ∀ (l : List En) (k : Nat), (ecs l).drop (k * 8) = ecs (l.drop k)
  | [], k => by simp [ecs]
  | c :: r, 0 => rfl
  | c :: r, k + 1 => by
    rw [show (k + 1) * 8 = k * 8 + 8 by omega]
    exact ecs_drop r k
theorem ecs_take : ∀ (l : List En) (k : Nat), (ecs l).take (k * 8) = ecs (l.take k)
  | [], k => by simp [ecs]
  | c :: r, 0 => rfl
  | c :: r, k + 1 => by
    have h8 : (ecs [c]).length = 8 := by rw [ecs_len]; rfl
    rw [ecs_cons c r, List.take_succ_cons, ecs_cons c (r.take k), ← ecs_take r k, List.take_append, h8, List.take_of_length_le (by omega), show (k + 1) * 8 - 8 = k * 8 by omega]
theorem SlE.tail {w : World} {A : Option Addr} {l : List En} {c k : Nat} (h : Sl w A (ecs l)) (hc : l.length ≤ c) : Sl w (midS A c k 8) (ecs (l.drop k)) := fun hpos => by
  have hl : k < l.length := by rw [ecs_len, List.length_drop] at hpos; omega
  obtain ⟨b, off, rfl, hb, hcell⟩ := h (by rw [ecs_len]; omega)
  have hne : c ≠ k := by omega
  refine ⟨b, off + k * 8, by simp [midS, hne, WideShapes.add_plain], hb, fun j u hu => ?_⟩
  rw [← ecs_drop, List.getElem?_drop] at hu
  rw [show off + k * 8 + j = off + (k * 8 + j) by omega]
  exact hcell _ u hu
theorem ecs_one : ∀ (l : List En), ∀ u ∈ ecs l, u.oneCell' = true
  | [], u, h => by simp [ecs] at h
  | c :: r, u, h => by
    rw [ecs_cons, List.mem_append] at h
    rcases h with h | h
    · simp [ecs] at h
      rcases h with rfl | rfl | rfl | rfl | rfl | rfl | rfl | rfl <;> simp [Value.oneCell']
    · exact ecs_one r u h
def RDropped (w : World) (r : Nat) (own : C4) (A : Option Addr) (m : VM) (id : Int) (e : Ending) (w' : World) : Prop :=
  ∃ A' n' c', e = .returned (.bool (kget m id).isSome) ∧ RVIs w' r own A' n' c' (kdel m id) ∧ (∀ x ∈ blks A', x ∈ blks A ∨ w.heap.size ≤ x) ∧ Turn [r] w w'
set_option maxRecDepth 100000 in
set_option maxHeartbeats 4000000 in
theorem rDrop_c {w : World} {r : Nat} {own : C4} {A : Option Addr} {n c : Nat} {m : VM} (h : RVIs w r own A n c m) (hok : VOk m) (hr : Rises m) (hl : n ≤ 16) (id : Int) :
    Calls Try.prog 33 #[.pointer (some ⟨r, 0, none⟩), .int .i64 id] w (RDropped w r own A m id) := by
  have FC := rFind_c h hok.key (by omega) id
  have HR := Lib.hid h
  have HN := h.len
  have f4 := h.blk.frozen 4
  unfold RDropped
  obtain ⟨-, -, -, -, c4, rl⟩ := h.cells
  rcases findI_cases m id with ⟨hg, hf⟩ | ⟨k, hk, a, hg, hf, hmk⟩
  · rw [hf] at FC
    rw [hg, kdel_absent hg]
    have HFC := Lib.hid FC
    clear FC hf hg h
    go_enter Try.func33, Try.ntmps33
    go_wp2_with fail
    refine HFC.out.mono ?_
    rintro e w1 ⟨rfl, rfl⟩
    go_wp2_with fail
    go_ret
    exact ⟨A, n, c, by simp, HR.out, fun x hx => .inl hx, Turn.refl _ _⟩
  · rw [hf] at FC
    rw [hg]
    have HFC := Lib.hid FC
    have hkd := Lib.hid (kdel_at hr hk (id := id) (by rw [hmk]))
    have hx := h.sl
    have hc : n ≤ c := by
      obtain ⟨base, -, ho⟩ := h.row
      exact (own_caps ho).1
    obtain ⟨es, hes⟩ : ∃ es, es = m.map (·.2) := ⟨_, rfl⟩
    rw [← hes] at hx
    have hel : es.length = n := by rw [hes, List.length_map, HN]
    have HES : Hid (m.map (·.2) = es) := hes.symm
    have kn : k < n := by omega
    obtain ⟨iP, hiP, -, hsP, -⟩ := elemRE.info
    have HD := fun (w : World) => run_slice_head (P := Try.prog) Try.underlying61 hiP w A n c .i64 (k : Int) (Int.natCast_nonneg _) (by omega)
    have HT : ∀ (w : World), (Instr.slice 61 (.slice A n c) (some (.int .i64 ((k : Int) + 1))) none none).run Try.prog w = .ok (.slice (midS A c (k + 1) 8) (n - (k + 1)) (c - (k + 1))) w := fun w => by
      have := run_slice_tail (P := Try.prog) (sz := 8) Try.underlying61 hiP hsP w A n c (k + 1) .i64 (by omega) hc
      rwa [show ((k + 1 : Nat) : Int) = (k : Int) + 1 by omega] at this
    rw [Int.toNat_natCast] at HD
    have shd : Sl w A (ecs (es.take k)) := by have := hx.take (k * 8); rwa [ecs_take] at this
    have stl := SlE.tail hx (k := k + 1) (c := c) (by rw [hel]; exact hc)
    have hl1 : (ecs (es.take k)).length = k * 8 := by rw [ecs_len, List.length_take, hel]; omega
    have hl2 : (ecs (es.drop (k + 1))).length = (n - (k + 1)) * 8 := by rw [ecs_len, List.length_drop, hel]
    have hone1 := Lib.hid (ecs_one (es.take k))
    have hone2 := Lib.hid (ecs_one (es.drop (k + 1)))
    have HSH := Lib.hid shd
    have HST := Lib.hid stl
    generalize midS A c (k + 1) 8 = A3 at *
    have T0 := (Turn.refl [] w).drew
    have h0 := World.ownsRow_lit (base := w.heap.size) (e := 94) (size := 8) w.drew #[] 0 (Nat.le_refl _) (by simp) rfl
    have H0 := Lib.hid h0
    have i0 : (0 : Int) ≤ (k : Int) := Int.natCast_nonneg _
    have i1 : (k : Int) < (n : Int) := by omega
    have hwk : IntKind.i64.wrap ((k : Int) + 1) = (k : Int) + 1 := by
      simp only [IntKind.wrap, IntKind.signed, IntKind.bits]
      simp
      omega
    clear h0 shd stl hiP hsP FC hf hg h hmk hes hx
    go_enter Try.func33, Try.ntmps33
    go_wp2_with fail
    refine HFC.out.mono ?_
    rintro e w1 ⟨rfl, rfl⟩
    go_wp2_with fail
    go_region_law (first
      | (refine step_append_sl elemRE (by rfl) _ _ (by rfl) _ 0 _ [] (by rfl) H0.out _ k c (ecs (es.take k)) (by rfl) ((HSH.out.turn0 T0).alloc _) hl1 hone1.out (by omega) (by omega) (by simp) ?_; intro D1 cd1 w1 own1 hg1 hlie1; rw [Nat.zero_add, List.nil_append] at own1;
         have T1 : Turn [] w w1 := (T0.alloc (.cells #[] 94)).andThen (Turn.of_grown (S := [w.heap.size]) hg1 (by simp)) (by simp); have B1 := own_ltA own1; have zz1 := T1.size; have c5 := ((HR.out.turn0 T1).cells).2.2.2.2.1; have rl5 := ((HR.out.turn0 T1).cells).2.2.2.2.2)
      | (refine step_append_sl elemRE (by rfl) _ _ (by rfl) D1 k cd1 _ (by rfl) own1 A3 (n - (k + 1)) (c - (k + 1)) (ecs (es.drop (k + 1))) (by rfl) (HST.out.turn0 T1) hl2 hone2.out (by omega) (by omega) (by omega) ?_; intro D3 cd3 w3 own3 hg3 hlie3;
         have T3 : Turn [] w w3 := T1.andThen (grown_turn hg3) (fun i hi => .inr (B1 i hi).2); have c6 := ((HR.out.turn0 T3).cells).2.2.2.2.1; have rl6 := ((HR.out.turn0 T3).cells).2.2.2.2.2; have f6 := (HR.out.turn0 T3).blk.frozen 4; have z3 := T3.size))
    all_goals
      have hrow : Hid (ecs ((kdel m id).map (·.2)) = ecs (es.take k) ++ ecs (es.drop (k + 1))) := by
        show _ = _
        rw [hkd.out, List.map_append, List.map_take, List.map_drop, HES.out, ecs_append]
      rw [← hrow.out] at own3
      have hlt5 := own_ltA own3
      have NR := Lib.hid ((HR.out.turn0 T3).newrow D3 (k + (n - (k + 1))) cd3 _ own3 rl)
      have HT3 := Lib.hid T3
      clear own3 hg3 hlie3 T3
      go_wp2_with fail
      go_ret
      exact ⟨D3, k + (n - (k + 1)), cd3, by simp, NR.out.1, fun x hx => .inr (hlt5 x hx).2, (HT3.out.mono (by simp)).trans NR.out.2⟩
end Go.Proofs.Ytelagneielahhaa
