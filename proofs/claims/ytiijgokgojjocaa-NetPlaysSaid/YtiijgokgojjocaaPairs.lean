/- Maps whose keys are pairs of ints. -/
import Derived.Test.YtiijgokgojjocaaKit
import Derived.DeepKeys4
import Derived.Maps.Keyed
import Derived.WideKeyEntry
namespace Go.Proofs.Ytiijgokgojjocaa
open Go.RowKit Go.ChangeMaps Go.WideMaps

def pk (k : Int × Int) : Value := .agg #[.int .i64 k.1, .int .i64 k.2]
abbrev PM := List ((Int × Int) × Value)
def pget {α : Type} (m : List ((Int × Int) × α)) (k : Int × Int) : Option α := (m.find? (fun p => p.1 == k)).map (·.2)
def pput {α : Type} : List ((Int × Int) × α) → Int × Int → α → List ((Int × Int) × α)
  | [], k, v => [(k, v)]
  | p :: m, k, v => if p.1 = k then (k, v) :: m else p :: pput m k v
def wf64 (x : Int) : Prop := (Lit.int .i64 x).wf = true
def wfP (k : Int × Int) : Prop := wf64 k.1 ∧ wf64 k.2
/-- A map's entries. -/
structure PairsIs (es : Array MapEntry) (clock : Nat) (m : PM) : Prop where
  stamped : MapKept.Stamped es clock
  ents : es.toList.map (fun e => (e.key, e.val)) = m.map (fun p => (pk p.1, p.2))
  keys : ∀ p ∈ m, wfP p.1
  nodup : (m.map (·.1)).Nodup
theorem pk_inj {a b : Int × Int} (h : pk a = pk b) : a = b := by
  obtain ⟨a1, a2⟩ := a
  obtain ⟨b1, b2⟩ := b
  simp [pk] at h
  simp [h]
theorem PairsIs.empty : PairsIs #[] 0 [] := ⟨MapKept.stamped_empty 0, rfl, by simp, by simp⟩
theorem PairsIs.size {es : Array MapEntry} {clock : Nat} {m : PM} (h : PairsIs es clock m) : es.size = m.length := by
  have := congrArg List.length h.ents
  simpa using this
theorem pget_none {α : Type} {m : List ((Int × Int) × α)} {k : Int × Int} : pget m k = none ↔ ∀ p ∈ m, p.1 ≠ k := by
  simp [pget]
theorem pget_mem {α : Type} {m : List ((Int × Int) × α)} {k : Int × Int} {v : α} (h : pget m k = some v) : (k, v) ∈ m := by
  simp only [pget, Option.map_eq_some_iff] at h
  obtain ⟨p, hp, rfl⟩ := h
  have h1 := List.find?_some hp
  have h2 := List.mem_of_find?_eq_some hp
  simp at h1
  subst h1
  exact h2
theorem pget_at {α : Type} : ∀ {m : List ((Int × Int) × α)} {j : Nat} {k : Int × Int} {v : α}, (m.map (·.1)).Nodup → m[j]? = some (k, v) → pget m k = some v
  | [], j, k, v, _, h => by simp at h
  | p :: m, 0, k, v, hn, h => by
    simp at h
    subst h
    simp [pget]
  | p :: m, j + 1, k, v, hn, h => by
    simp only [List.map_cons, List.nodup_cons] at hn
    simp at h
    have hne : ¬ p.1 = k := fun he => hn.1 (by rw [he]; exact List.mem_map.2 ⟨(k, v), List.mem_of_getElem? h, rfl⟩)
    have := pget_at hn.2 h
    simpa [pget, hne] using this
theorem pput_absent {α : Type} : ∀ {m : List ((Int × Int) × α)} {k : Int × Int} {v : α}, (∀ p ∈ m, p.1 ≠ k) → pput m k v = m ++ [(k, v)]
  | [], _, _, _ => rfl
  | p :: m, k, v, h => by
    rw [pput, if_neg (h p (by simp)), pput_absent (fun q hq => h q (by simp [hq]))]
    rfl
theorem pput_at {α : Type} : ∀ {m : List ((Int × Int) × α)} {j : Nat} {k : Int × Int} {v u : α}, (m.map (·.1)).Nodup → m[j]? = some (k, u) → pput m k v = m.set j (k, v)
  | [], j, k, v, u, _, h => by simp at h
  | p :: m, 0, k, v, u, hn, h => by
    simp at h
    subst h
    simp [pput]
  | p :: m, j + 1, k, v, u, hn, h => by
    simp only [List.map_cons, List.nodup_cons] at hn
    simp at h
    have hne : ¬ p.1 = k := fun he => hn.1 (by rw [he]; exact List.mem_map.2 ⟨(k, u), List.mem_of_getElem? h, rfl⟩)
    rw [pput, if_neg hne, pput_at hn.2 h]
    rfl
theorem pput_keys {α : Type} {k : Int × Int} {v : α} : ∀ {m : List ((Int × Int) × α)} {x : Int × Int}, x ∈ (pput m k v).map (·.1) ↔ x = k ∨ x ∈ m.map (·.1)
  | [], x => by simp [pput]
  | p :: m, x => by
    by_cases h : p.1 = k
    · rw [pput, if_pos h]
      simp only [List.map_cons, List.mem_cons, h]
      constructor
      · rintro (h | h)
        · exact .inl h
        · exact .inr (.inr h)
      · rintro (h | h | h)
        · exact .inl h
        · exact .inl h
        · exact .inr h
    · rw [pput, if_neg h]
      simp only [List.map_cons, List.mem_cons, pput_keys]
      constructor
      · rintro (h | h | h)
        · exact .inr (.inl h)
        · exact .inl h
        · exact .inr (.inr h)
      · rintro (h | h | h)
        · exact .inr (.inl h)
        · exact .inl h
        · exact .inr (.inr h)
theorem pput_nodup {α : Type} {k : Int × Int} {v : α} : ∀ {m : List ((Int × Int) × α)}, (m.map (·.1)).Nodup → ((pput m k v).map (·.1)).Nodup
  | [], _ => by simp [pput]
  | p :: m, hn => by
    simp only [List.map_cons, List.nodup_cons] at hn
    by_cases h : p.1 = k
    · rw [pput, if_pos h]
      simp only [List.map_cons, List.nodup_cons]
      exact ⟨h ▸ hn.1, hn.2⟩
    · rw [pput, if_neg h]
      simp only [List.map_cons, List.nodup_cons]
      refine ⟨fun hm => ?_, pput_nodup hn.2⟩
      rcases pput_keys.1 hm with hm | hm
      · exact h hm
      · exact hn.1 hm
theorem pput_mem {α : Type} {k : Int × Int} {v : α} {m : List ((Int × Int) × α)} {p : (Int × Int) × α} (h : p ∈ pput m k v) : p.1 = k ∨ p.1 ∈ m.map (·.1) :=
  pput_keys.1 (List.mem_map.2 ⟨p, h, rfl⟩)
theorem pput_length {α : Type} {k : Int × Int} {v : α} : ∀ {m : List ((Int × Int) × α)}, (pput m k v).length ≤ m.length + 1
  | [] => by simp [pput]
  | p :: m => by
    rw [pput]
    split
    · simp
    · have := @pput_length _ k v m
      simp
      omega
theorem pget_pput {α : Type} {k k' : Int × Int} {v : α} : ∀ {m : List ((Int × Int) × α)}, pget (pput m k v) k' = if k = k' then some v else pget m k'
  | [] => by
    by_cases h : k = k'
    · simp [pput, pget, h]
    · simp [pput, pget, h]
  | p :: m => by
    have IH := @pget_pput _ k k' v m
    simp only [pget] at IH
    by_cases hp : p.1 = k
    · rw [pput, if_pos hp]
      by_cases h : k = k'
      · simp [pget, h]
      · have : ¬ p.1 = k' := fun e => h (hp.symm.trans e)
        simp [pget, h, this]
    · rw [pput, if_neg hp]
      by_cases hp' : p.1 = k'
      · have : ¬ k = k' := fun e => hp (hp'.trans e.symm)
        simp [pget, hp', this]
      · simp [pget, hp', IH]
section
variable {P : Program} {k t e ti : TypeId} {es : Array MapEntry} {clock : Nat} {m : PM}
theorem PairsIs.keyed (h : PairsIs es clock m) (hk : ∀ x : Int × Int, wfP x → ∃ l, keyOf P k (pk x) = some l) : ∀ e ∈ es.toList, ∃ l, keyOf P k e.key = some l := fun e he => by
  have h1 : (e.key, e.val) ∈ es.toList.map (fun e => (e.key, e.val)) := List.mem_map.2 ⟨e, he, rfl⟩
  rw [h.ents] at h1
  obtain ⟨p, hp, h2⟩ := List.mem_map.1 h1
  have h3 : pk p.1 = e.key := congrArg Prod.fst h2
  rw [← h3]
  exact hk _ (h.keys p hp)
theorem PairsIs.at_ (h : PairsIs es clock m) {j : Nat} {e0 : MapEntry} (hj : es.toList[j]? = some e0) {x : Int × Int} (hx : e0.key = pk x) : m[j]? = some (x, e0.val) := by
  have h1 := congrArg (·[j]?) h.ents
  simp only [List.getElem?_map, hj, Option.map_some] at h1
  cases hm : m[j]? with
  | none => simp [hm] at h1
  | some p =>
    simp [hm] at h1
    have := pk_inj (h1.1.symm.trans hx)
    rw [← this, h1.2]
theorem PairsIs.find (h : PairsIs es clock m) (K : Maps.Keyed P k) (hk : ∀ x : Int × Int, wfP x → ∃ l, keyOf P k (pk x) = some l) {x : Int × Int} (hx : wfP x) (w : World) :
    ((Instr.findKey k (pk x) es.toList).run P w = .ok none w ∧ ∀ p ∈ m, p.1 ≠ x) ∨ ∃ j v, (Instr.findKey k (pk x) es.toList).run P w = .ok (some (j, v)) w ∧ m[j]? = some (x, v) ∧ ∃ e0, es[j]? = some e0 ∧ e0.key = pk x ∧ e0.val = v := by
  obtain ⟨l, hl⟩ := hk x hx
  rcases K.find w hl es.toList (h.keyed hk) with ⟨h1, h2⟩ | ⟨j, e0, h1, h2, h3⟩
  · refine .inl ⟨h1, fun p hp he => ?_⟩
    have h4 : (pk p.1, p.2) ∈ m.map (fun p => (pk p.1, p.2)) := List.mem_map.2 ⟨p, hp, rfl⟩
    rw [← h.ents] at h4
    obtain ⟨e, he1, he2⟩ := List.mem_map.1 h4
    have h5 : e.key = pk p.1 := congrArg Prod.fst he2
    exact h2 e he1 (by rw [h5, he])
  · exact .inr ⟨j, e0.val, h1, h.at_ h2 h3, e0, by simpa using h2, h3, rfl⟩
theorem PairsIs.look (h : PairsIs es clock m) (K : Maps.Keyed P k) (hk : ∀ x : Int × Int, wfP x → ∃ l, keyOf P k (pk x) = some l) (ht : P.underlying t = some (.map k e)) {z : Value} (hz : ∀ w, (zeroValue e).run P w = .ok z w)
    {x : Int × Int} (hx : wfP x) (w : World) (b : Nat) (hb : w.heap[b]? = some (.map es clock)) : (Instr.lookup t (.map (some b)) (pk x) false).run P w = .ok ((pget m x).getD z) w := by
  obtain ⟨l, hl⟩ := hk x hx
  rcases h.find K hk hx w with ⟨h1, h2⟩ | ⟨j, v, h1, h2, -⟩
  · rw [pget_none.2 h2]
    simp [Instr.lookup, run_underlying ht, MapKept.run_getObj_map hb, K.check w _ hl, h1, Result.andThen, hz]
  · rw [pget_at h.nodup h2]
    simp [Instr.lookup, run_underlying ht, MapKept.run_getObj_map hb, K.check w _ hl, h1, Result.andThen]
theorem PairsIs.store (h : PairsIs es clock m) (K : Maps.Keyed P k) (hk : ∀ x : Int × Int, wfP x → ∃ l, keyOf P k (pk x) = some l) (ht : P.underlying t = some (.map k e)) {x : Int × Int} (hx : wfP x) (v : Value) (w : World) (b : Nat) (hb : w.heap[b]? = some (.map es clock)) :
    ∃ es' clock', PairsIs es' clock' (pput m x v) ∧ (Instr.mapUpdate t (.map (some b)) (pk x) v).run P w = .ok () (setBlock w b (.map es' clock')) := by
  obtain ⟨l, hl⟩ := hk x hx
  rcases h.find K hk hx w with ⟨h1, h2⟩ | ⟨j, u, h1, h2, e0, h3, h4, h5⟩
  · refine ⟨es.push ⟨pk x, v, clock⟩, clock + 1, ⟨MapKept.stamped_push h.stamped (fun e he hk0 => ?_), ?_, ?_, pput_nodup h.nodup⟩, ?_⟩
    · have h1' : (e.key, e.val) ∈ es.toList.map (fun e => (e.key, e.val)) := List.mem_map.2 ⟨e, he, rfl⟩
      rw [h.ents] at h1'
      obtain ⟨p, hp, h2'⟩ := List.mem_map.1 h1'
      have h3' : pk p.1 = e.key := congrArg Prod.fst h2'
      exact h2 p hp (pk_inj (h3'.trans hk0))
    · rw [pput_absent h2]
      simp [h.ents]
    · intro p hp
      rcases pput_mem hp with h6 | h6
      · rw [h6]; exact hx
      · obtain ⟨q, hq, h7⟩ := List.mem_map.1 h6
        rw [← h7]
        exact h.keys q hq
    · simp [Instr.mapUpdate, run_underlying ht, MapKept.run_getObj_map hb, K.check w false hl, h1, MapKept.run_setObj_map _ hb, Result.andThen, setBlock]
  · refine ⟨es.modify j (fun e' => { e' with key := pk x, val := v }), clock, ⟨MapKept.stamped_modify h.stamped j _ (fun _ _ => rfl) (fun e he hj' => by rw [h3] at hj'; cases hj'; exact h4.symm), ?_, ?_, pput_nodup h.nodup⟩, ?_⟩
    · have h3' : es.toList[j]? = some e0 := by simpa using h3
      rw [pput_at h.nodup h2, List.map_set, ← h.ents]
      apply List.ext_getElem?
      intro i
      rw [Array.toList_modify, List.getElem?_map, List.getElem?_modify, List.getElem?_set, List.getElem?_map]
      by_cases hi : j = i
      · subst hi
        have hlt : j < es.size := (Array.getElem?_eq_some_iff.1 h3).1
        simp [hlt]
      · simp [hi]
    · intro p hp
      rcases pput_mem hp with h6 | h6
      · rw [h6]; exact hx
      · obtain ⟨q, hq, h7⟩ := List.mem_map.1 h6
        rw [← h7]
        exact h.keys q hq
    · simp [Instr.mapUpdate, run_underlying ht, MapKept.run_getObj_map hb, K.check w false hl, h1, h3, h4, K.stays w hl, MapKept.run_setObj_map _ hb, Result.andThen, setBlock]
/-- 'm[k] += ..': the entry is made, then its value is stored. -/
theorem PairsIs.entry (h : PairsIs es clock m) (K : KeyLaw P k) (hk : ∀ x : Int × Int, wfP x → ∃ l, keyOf P k (pk x) = some l) (ht : P.underlying t = some (.map k e)) {z : Value} (hz : ∀ w : World, (zeroValue e).run P w = .ok z w) (hm : m.length ≤ maxLen)
    {x : Int × Int} (hx : wfP x) (w : World) (b : Nat) (hb : w.heap[b]? = some (.map es clock)) :
    ∃ v0 st es1 clock1, (Instr.mapEntry t (.map (some b)) (pk x)).run P w = .ok (.tuple #[v0, .int .i64 (st : Nat)]) (setBlock w b (.map es1 clock1)) ∧
      ∀ (w2 : World) (val : Value), w2.heap[b]? = some (.map es1 clock1) → ∃ es' clock', PairsIs es' clock' (pput m x val) ∧ (Instr.entryStore t (.map (some b)) (.int .i64 (st : Nat)) val).run P w2 = .ok () (setBlock w2 b (.map es' clock')) := by
  obtain ⟨l, hl⟩ := hk x hx
  have F : WideElems.Fit (H := Unit) P k (fun _ => some (.lit (.bool true), [])) es clock := ⟨by rw [h.size]; exact hm, h.stamped, fun y hy => by
    obtain ⟨ly, hly⟩ := h.keyed hk y hy
    exact ⟨_, by unfold WideElems.rd; rw [hly]; rfl⟩⟩
  obtain ⟨v0, st, es1, clock1, h1, -, h2⟩ := WideElems.entry_then_store K ht hz hb F hl
  refine ⟨v0, st, es1, clock1, h1, fun w2 val hw2 => ?_⟩
  obtain ⟨es', clock', h3, h4⟩ := h2 w2 val hw2
  obtain ⟨es2, clock2, h5, h6⟩ := h.store (Maps.Keyed.of_law K) hk ht hx val w b hb
  rw [h4] at h6
  have h7 : setBlock w b (.map es' clock') = setBlock w b (.map es2 clock2) := by injection h6
  have h8 : (setBlock w b (.map es' clock')).heap[b]? = some (.map es2 clock2) := by rw [h7]; exact get_set hb _
  rw [get_set hb] at h8
  cases h8
  exact ⟨es', clock', h5, h3⟩
theorem PairsIs.len (h : PairsIs es clock m) (ht : P.underlying t = some (.map k e)) (ty : TypeId) (w : World) (b : Nat) (hb : w.heap[b]? = some (.map es clock)) :
    (Builtin.len_ #[t] ty #[.map (some b)]).run P w = .ok (.int .i64 m.length) w := by
  simp [Builtin.len_, run_underlying ht, MapKept.run_getObj_map hb, Result.andThen, h.size]
  rfl
theorem run_clear_map (ht : P.underlying t = some (.map k e)) (ty : TypeId) (w : World) (b : Nat) (hb : w.heap[b]? = some (.map es clock)) :
    (Builtin.clear_ #[t] ty #[.map (some b)]).run P w = .ok (.tuple #[]) (setBlock w b (.map #[] clock)) := by
  simp [Builtin.clear_, run_underlying ht, MapKept.run_getObj_map hb, MapKept.run_setObj_map _ hb, Result.andThen, setBlock]
end
/-- A set of pairs, as a map to true; sums by pairs. -/
def cutPM (l : List (Int × Int)) : PM := l.map fun p => (p, .bool true)
def camePM (l : List ((Int × Int) × Int)) : PM := l.map fun p => (p.1, .int .i64 p.2)
theorem cutPM_get (l : List (Int × Int)) (k : Int × Int) : (pget (cutPM l) k).getD (.bool false) = .bool (decide (k ∈ l)) := by
  induction l with
  | nil => simp [cutPM, pget]
  | cons a l ih =>
    by_cases h : a = k
    · simp [cutPM, pget, h]
    · have h' : ¬ k = a := fun e => h e.symm
      have e1 : pget (cutPM (a :: l)) k = pget (cutPM l) k := by simp [cutPM, pget, h]
      rw [e1, ih]
      simp [h']
theorem cutPM_put {l : List (Int × Int)} {k : Int × Int} (h : k ∉ l) : pput (cutPM l) k (.bool true) = cutPM (l ++ [k]) := by
  rw [pput_absent (fun p hp => ?_)]
  · simp [cutPM]
  · obtain ⟨q, hq, rfl⟩ := List.mem_map.1 hp
    exact fun e => h (e ▸ hq)
theorem cutPM_len (l : List (Int × Int)) : (cutPM l).length = l.length := by simp [cutPM]
theorem camePM_get (l : List ((Int × Int) × Int)) (k : Int × Int) : (pget (camePM l) k).getD (.int .i64 0) = .int .i64 ((pget l k).getD 0) := by
  induction l with
  | nil => simp [camePM, pget]
  | cons a l ih =>
    by_cases h : a.1 = k
    · simp [camePM, pget, h]
    · have e1 : pget (camePM (a :: l)) k = pget (camePM l) k := by simp [camePM, pget, h]
      have e2 : pget (a :: l) k = pget l k := by simp [pget, h]
      rw [e1, ih, e2]
theorem camePM_put (k : Int × Int) (v : Int) : ∀ l : List ((Int × Int) × Int), pput (camePM l) k (.int .i64 v) = camePM (pput l k v)
  | [] => rfl
  | a :: l => by
    by_cases h : a.1 = k
    · simp [camePM, pput, h]
    · have ih := camePM_put k v l
      simp only [camePM, List.map_cons, pput, h, if_false] at ih ⊢
      rw [ih]
theorem camePM_len (l : List ((Int × Int) × Int)) : (camePM l).length = l.length := by simp [camePM]
end Go.Proofs.Ytiijgokgojjocaa
