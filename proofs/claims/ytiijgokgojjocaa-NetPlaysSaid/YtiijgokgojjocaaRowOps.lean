/- Rows that are written in place: append within the room, clear, stores; slices of slices. -/
import Derived.Test.YtiijgokgojjocaaOwn
namespace Go.Proofs.Ytiijgokgojjocaa
open Go.RowKit Go.ChangeMaps

section
variable {P : Program} {w : World} {t e : TypeId} {z : Value} {size bytes base : Nat}
/-- 's[l:h]'. -/
theorem run_slice_mid {i : TypeInfo} (ht : P.underlying t = some (.slice e)) (hi : P.info? e = some i) (w : World) (g : Nat) (n c l h : Nat) (hl : l ≤ h) (hh : h ≤ c) :
    (Instr.slice t (.slice (some ⟨g, 0, none⟩) n c) (some (.int .i64 l)) (some (.int .i64 h)) none).run P w = .ok (.slice (some ⟨g, if c - l = 0 then 0 else l * i.size, none⟩) (h - l) (c - l)) w := by
  have h1 : (0 : Int) ≤ (l : Int) ∧ (l : Int) ≤ (h : Int) := by omega
  have h2 : (0 : Int) ≤ (h : Int) ∧ (h : Int) ≤ (c : Int) := by omega
  have ha : (if c - l = 0 then some (⟨g, 0, none⟩ : Addr) else some ((⟨g, 0, none⟩ : Addr).add (l * i.size))) = some ⟨g, if c - l = 0 then 0 else l * i.size, none⟩ := by
    split <;> simp [Addr.add_lit]
  by_cases hc : c - l = 0
  · have hc' : c = l := by omega
    subst hc'
    simp [Instr.slice, run_underlying ht, Instr.sliceBounds, Instr.sliceBound, asIntOf, hl, hh, h1, h2, sizeOf, typeInfo, hi]
  · have hc' : ¬ c = l := by omega
    simp [Instr.slice, run_underlying ht, Instr.sliceBounds, Instr.sliceBound, asIntOf, hl, hh, h1, h2, sizeOf, typeInfo, hi, hc, hc', Addr.add_lit]
/-- 's[l:]'. -/
theorem run_slice_from {i : TypeInfo} (ht : P.underlying t = some (.slice e)) (hi : P.info? e = some i) (w : World) (g : Nat) (n c l : Nat) (hl : l ≤ n) (hh : n ≤ c) :
    (Instr.slice t (.slice (some ⟨g, 0, none⟩) n c) (some (.int .i64 l)) none none).run P w = .ok (.slice (some ⟨g, if c - l = 0 then 0 else l * i.size, none⟩) (n - l) (c - l)) w := by
  have h1 : (0 : Int) ≤ (l : Int) ∧ (l : Int) ≤ (n : Int) := by omega
  by_cases hc : c - l = 0
  · have hc' : c = l := by omega
    subst hc'
    simp [Instr.slice, run_underlying ht, Instr.sliceBounds, Instr.sliceBound, asIntOf, hl, hh, h1, sizeOf, typeInfo, hi]
  · have hc' : ¬ c = l := by omega
    simp [Instr.slice, run_underlying ht, Instr.sliceBounds, Instr.sliceBound, asIntOf, hl, h1, sizeOf, typeInfo, hi, hc, hc', Addr.add_lit]
theorem own_shrink {w : World} {n cap : Nat} {g : Nat} {xs : List Value} (h : w.ownsRow base e size (.slice (some ⟨g, 0, none⟩) n cap) n xs) {k : Nat} (hk : k ≤ n) :
    w.ownsRow base e size (.slice (some ⟨g, 0, none⟩) k cap) k (xs.take (k * size)) := by
  obtain ⟨h1, h2⟩ := h
  have hm := Nat.mul_le_mul_right size hk
  refine ⟨by rw [List.length_take]; omega, ?_⟩
  rcases h2 with h2 | ⟨g', cap', cur, hv, hb, hg, hnc, hcm, hcs, ht⟩
  · simp at h2
  · cases hv
    refine .inr ⟨g, cap, cur, rfl, hb, hg, by omega, hcm, hcs, ?_⟩
    rw [← ht, List.take_take]
    congr 1
    omega
theorem own_heap {w : World} {n cap : Nat} {g : Nat} {xs : List Value} (h : w.ownsRow base e size (.slice (some ⟨g, 0, none⟩) n cap) n xs) :
    ∃ cur, w.heap[g]? = some (.cells cur e (0, 0)) ∧ base ≤ g ∧ n ≤ cap ∧ cap ≤ maxLen ∧ cur.size = cap * size ∧ cur.toList.take (n * size) = xs := by
  obtain ⟨h1, h2⟩ := h
  rcases h2 with h2 | ⟨g', cap', cur, hv, hb, hg, hnc, hcm, hcs, ht⟩
  · simp at h2
  · cases hv
    exact ⟨cur, hg, hb, hnc, hcm, hcs, ht⟩
theorem turn_setRow (w : World) (g : Nat) (cs : Array Value) : Turn [g] w (w.setRow g cs) :=
  ⟨rfl, rfl, rfl, by simp [World.setRow], fun k _ hk => setRow_other w g k cs (fun e => hk (by simp [e]))⟩
theorem own_set {w : World} {n cap : Nat} {g : Nat} {xs : List Value} (h : w.ownsRow base e size (.slice (some ⟨g, 0, none⟩) n cap) n xs) (j : Nat) (_hj : j < n * size) (v : Value) :
    (w.setCell ⟨g, j, none⟩ v).ownsRow base e size (.slice (some ⟨g, 0, none⟩) n cap) n (xs.set j v) := by
  obtain ⟨cur, hg, hb, hnc, hcm, hcs, ht⟩ := own_heap h
  refine ⟨by rw [List.length_set]; exact h.1, .inr ⟨g, cap, cur.setIfInBounds j v, rfl, hb, ?_, hnc, hcm, by simpa using hcs, ?_⟩⟩
  · rw [setCell_eq_setRow w g j cur e (0, 0) v hg]
    exact setRow_heap w g cur _ e _ hg
  · rw [← ht, Array.toList_setIfInBounds, List.take_set]
theorem ElemT.append_room (E : ElemT P t e z size bytes) (ty : TypeId) (g N cap : Nat) (XS : List Value) (hown : w.ownsRow base e size (.slice (some ⟨g, 0, none⟩) N cap) N XS) (n : Nat) (hnN : n ≤ N) (a : Addr) (m c : Nat) (news : List Value)
    (hn : Sl w (some a) news) (hl : news.length = m * size) (h1 : ∀ u ∈ news, u.oneCell' = true) (hroom : n + m ≤ cap) :
    ∃ w', (Builtin.append_ #[t, t] ty #[.slice (some ⟨g, 0, none⟩) n cap, .slice (some a) m c]).run P w = .ok (.slice (some ⟨g, 0, none⟩) (n + m) cap) w' ∧
      w'.ownsRow base e size (.slice (some ⟨g, 0, none⟩) (n + m) cap) (n + m) (XS.take (n * size) ++ news) ∧ Turn [g] w w' := by
  obtain ⟨ht, ⟨i, hi, hz, hs, hb⟩, hzs, hpos⟩ := E
  subst hs
  obtain ⟨cur, hg, hbb, hnc, hcm, hcs, htk⟩ := own_heap (own_shrink hown hnN)
  have hc : ∀ j u, news[j]? = some u → w.cell? (a.add j) = some u := by
    intro j u hu
    have hp : 0 < news.length := by
      have := (List.getElem?_eq_some_iff.1 hu).1
      omega
    obtain ⟨b, off, hA, _, h⟩ := hn hp
    cases hA
    rw [Addr.add_lit]
    exact h j u hu
  have hfit : n * i.size + news.length ≤ cur.size := by rw [hl, hcs, ← Nat.add_mul]; exact Nat.mul_le_mul_right _ hroom
  have hr := run_append_room (P := P) w t ty e i ht hi g n cap cur hg a m c news hl hc h1 hroom hfit
  have hlen : (XS.take (n * i.size) ++ news).length = (n + m) * i.size := by
    rw [List.length_append, hl, Nat.add_mul, List.length_take, hown.1]
    have := Nat.mul_le_mul_right i.size hnN
    omega
  refine ⟨_, hr, ⟨hlen, .inr ⟨g, cap, _, rfl, hbb, setRow_heap w g cur _ e _ hg, hroom, hcm, ?_, ?_⟩⟩, turn_setRow w g _⟩
  · simp only [List.size_toArray, List.length_append, List.length_take, List.length_drop, Array.length_toList]
    omega
  · rw [htk, ← hlen]
    exact List.take_left
theorem ElemT.clear_tail (E : ElemT P t e z size bytes) (hz0 : ∀ w, (zeroValue e).run P w = .ok z w) (hz1 : ∀ u ∈ z.cells.toList, u.oneCell' = true) (ty : TypeId) (g n cap : Nat) (xs : List Value) (hown : w.ownsRow base e size (.slice (some ⟨g, 0, none⟩) n cap) n xs) (off k c : Nat) (hoff : k ≠ 0 → off = n * size) (hk : n + k ≤ cap) :
    ∃ w', (Builtin.clear_ #[t] ty #[.slice (some ⟨g, off, none⟩) k c]).run P w = .ok (.tuple #[]) w' ∧ w'.ownsRow base e size (.slice (some ⟨g, 0, none⟩) n cap) n xs ∧ Turn [g] w w' := by
  obtain ⟨ht, ⟨i, hi, hz, hs, hb⟩, hzs, hpos⟩ := E
  by_cases hk0 : k = 0
  · subst hk0
    exact ⟨w, by simp [Builtin.clear_, run_underlying ht], hown, Turn.refl _ _⟩
  have ho := hoff hk0
  subst ho
  obtain ⟨cur, hg, hbb, hnc, hcm, hcs, htk⟩ := own_heap hown
  have hzl : (Builtin.zeroCells z.cells k).toList.length = k * size := by rw [Array.length_toList, size_zeroCells, hzs]
  have hfit : n * size + 0 + (Builtin.zeroCells z.cells k).toList.length ≤ cur.size := by
    rw [hzl, hcs, Nat.add_zero, ← Nat.add_mul]
    exact Nat.mul_le_mul_right _ hk
  have h1 : ∀ v ∈ (Builtin.zeroCells z.cells k).toList, v.oneCell' = true := by
    intro v hv
    unfold Builtin.zeroCells at hv
    simp only [Array.toList_map, List.mem_map] at hv
    obtain ⟨j, _, rfl⟩ := hv
    have hj : j % z.cells.size < z.cells.size := Nat.mod_lt _ (by omega)
    rw [getElem!_pos z.cells _ hj]
    exact hz1 _ (by simp)
  have hst := run_storeCells_at P g (n * size) e _ 0 cur w hg hfit h1
  simp only [Nat.add_zero] at hst
  refine ⟨w.setRow g (cur.toList.take (n * size) ++ (Builtin.zeroCells z.cells k).toList ++ cur.toList.drop (n * size + (Builtin.zeroCells z.cells k).toList.length)).toArray, ?_, ⟨hown.1, .inr ⟨g, cap, _, rfl, hbb, setRow_heap w g cur _ e _ hg, hnc, hcm, ?_, ?_⟩⟩, turn_setRow w g _⟩
  · have hk1 : k ≠ 0 := hk0
    obtain ⟨k', rfl⟩ : ∃ k', k = k' + 1 := ⟨k - 1, by omega⟩
    simp [Builtin.clear_, run_underlying ht, hz0, hst]
  · simp only [List.size_toArray, List.length_append, List.length_take, List.length_drop, Array.length_toList]
    rw [Array.length_toList] at hfit
    omega
  · simp only [List.append_assoc]
    rw [List.take_append_of_le_length (by rw [List.length_take, Array.length_toList, hcs]; have := Nat.mul_le_mul_right size hnc; omega), List.take_take, Nat.min_self]
    exact htk

theorem wp_append_room (E : ElemT P t e z size bytes) {o : Oper} {a : Act} {K : Act → World → Prop} {Q : Exit → Act → World → Prop} (s x : Operand) (ho : o.op = .call { callee := .builtin .append, args := #[s, x], argTypes := #[t, t] })
    (g N cap : Nat) (XS : List Value) (n : Nat) (hs : a.eval s = .slice (some ⟨g, 0, none⟩) n cap) (hown : w.ownsRow base e size (.slice (some ⟨g, 0, none⟩) N cap) N XS) (hnN : n ≤ N) (b : Addr) (m c : Nat) (news : List Value) (hx : a.eval x = .slice (some b) m c) (hn : Sl w (some b) news)
    (hl : news.length = m * size) (h1 : ∀ u ∈ news, u.oneCell' = true) (hroom : n + m ≤ cap)
    (h : ∀ w', w'.ownsRow base e size (.slice (some ⟨g, 0, none⟩) (n + m) cap) (n + m) (XS.take (n * size) ++ news) → Turn [g] w w' → K (a.put o.dst (.slice (some ⟨g, 0, none⟩) (n + m) cap)) w') : o.wp P a w K Q := by
  obtain ⟨w', hr, h2, h3⟩ := E.append_room o.type g N cap XS hown n hnN b m c news hn hl h1 hroom
  unfold Oper.wp execOp
  simp only [ho, resolve, invoke, builtin, Sem.run_bind, Sem.run_pure, Result.andThen_ok, List.map_toArray, List.map_cons, List.map_nil, hs, hx, hr]
  exact h w' h2 h3
theorem step_append_room2 (E : ElemT P t e z size bytes) {ops : Array Oper} {o : Oper} {a : Act} {K : Act → World → Prop} {Q : Exit → Act → World → Prop} {X : Prop} (hgd : o.guard = none) (s x : Operand) (ho : o.op = .call { callee := .builtin .append, args := #[s, x], argTypes := #[t, t] })
    (g N cap : Nat) (XS : List Value) (n : Nat) (hs : a.eval s = .slice (some ⟨g, 0, none⟩) n cap) (hown : w.ownsRow base e size (.slice (some ⟨g, 0, none⟩) N cap) N XS) (hnN : n ≤ N) (b : Addr) (m c : Nat) (news : List Value) (hx : a.eval x = .slice (some b) m c) (hn : Sl w (some b) news)
    (hl : news.length = m * size) (h1 : ∀ u ∈ news, u.oneCell' = true) (hroom : n + m ≤ cap)
    (h : ∀ w', w'.ownsRow base e size (.slice (some ⟨g, 0, none⟩) (n + m) cap) (n + m) (XS.take (n * size) ++ news) → Turn [g] w w' → K (a.put o.dst (.slice (some ⟨g, 0, none⟩) (n + m) cap)) w') :
    if Region.wanted o (yielded ops a.tmps) = true then Oper.wp P o a w K Q else X := by
  have hw : Region.wanted o (yielded ops a.tmps) = true := by simp [Region.wanted, hgd]
  rw [if_pos hw]
  exact wp_append_room E s x ho g N cap XS n hs hown hnN b m c news hx hn hl h1 hroom h
theorem wpList_clear_tail (E : ElemT P t e z size bytes) (hz0 : ∀ w, (zeroValue e).run P w = .ok z w) (hz1 : ∀ u ∈ z.cells.toList, u.oneCell' = true) {ops : Array Oper} {rest : List Oper} {o : Oper} {a : Act} {Q : Exit → Act → World → Prop} (hgd : o.guard = none) (x : Operand)
    (ho : o.op = .call { callee := .builtin .clear, args := #[x], argTypes := #[t] }) (g n cap : Nat) (xs : List Value) (hown : w.ownsRow base e size (.slice (some ⟨g, 0, none⟩) n cap) n xs) (off k c : Nat) (hx : a.eval x = .slice (some ⟨g, off, none⟩) k c) (hoff : k ≠ 0 → off = n * size) (hk : n + k ≤ cap)
    (h : ∀ w', w'.ownsRow base e size (.slice (some ⟨g, 0, none⟩) n cap) n xs → Turn [g] w w' → wpList P ops Q rest (a.put o.dst (.tuple #[])) w') : wpList P ops Q (o :: rest) a w := by
  obtain ⟨w', hr, h2, h3⟩ := E.clear_tail hz0 hz1 o.type g n cap xs hown off k c hoff hk
  refine wpList_plain hgd fun _ hK => ?_
  unfold Oper.wp execOp
  simp only [ho, resolve, invoke, builtin, Sem.run_bind, Sem.run_pure, Result.andThen_ok, List.map_toArray, List.map_cons, List.map_nil, hx, hr]
  exact hK _ _ (h w' h2 h3)
end
end Go.Proofs.Ytiijgokgojjocaa
