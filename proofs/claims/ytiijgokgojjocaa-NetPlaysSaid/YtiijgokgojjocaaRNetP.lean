/- Plain: sums of bytes that came; sorting by what is seen of mails. -/
import Derived.Test.YtiijgokgojjocaaNetRule
import Derived.Test.YtiijgokgojjocaaNetCut
namespace Go.Proofs.Ytiijgokgojjocaa
open Srt

/-- How many bytes went from the one to the other. -/
def sumP : List PMl → Int × Int → Int
  | [], _ => 0
  | x :: l, p => (if (x.2.1, x.2.2.1) = p then (x.2.2.2.length : Int) else 0) + sumP l p
theorem sumP_append (p : Int × Int) : ∀ a b : List PMl, sumP (a ++ b) p = sumP a p + sumP b p
  | [], b => by simp [sumP]
  | x :: a, b => by
    rw [List.cons_append, sumP, sumP, sumP_append p a b]
    omega
theorem sumP_perm {a b : List PMl} (h : a.Perm b) (p : Int × Int) : sumP a p = sumP b p := by
  induction h with
  | nil => rfl
  | cons x _ ih => rw [sumP, sumP, ih]
  | swap x y l => simp only [sumP]; omega
  | trans _ _ h1 h2 => exact h1.trans h2
theorem sumP_ml (m : Ml) (l : List Ml) (p : Int × Int) : sumP ((m :: l).map Ml.pure) p = (if (m.fr, m.dst) = p then (m.xs.length : Int) else 0) + sumP (l.map Ml.pure) p := rfl
theorem came_sum (p : Int × Int) : ∀ (l : List Ml) (came : List ((Int × Int) × Int)), (∀ m ∈ l, m.xs.length = m.n) → (pget (cameAll came l) p).getD 0 = (pget came p).getD 0 + sumP (l.map Ml.pure) p
  | [], came, _ => by simp [cameAll, sumP]
  | m :: l, came, h => by
    have ih := came_sum p l (cameAdd came m) (fun x hx => h x (by simp [hx]))
    have e : cameAll came (m :: l) = cameAll (cameAdd came m) l := rfl
    have hm := h m (by simp)
    rw [e, ih]
    unfold cameAdd
    rw [pget_pput, sumP_ml]
    by_cases h1 : (m.fr, m.dst) = p
    · rw [if_pos h1, if_pos h1, hm, h1]
      simp only [Option.getD_some]
      omega
    · rw [if_neg h1, if_neg h1]
      omega
def isDueP (tick : Int) (x : PMl) : Bool := decide (x.1 ≤ tick)
theorem due_pure (tick : Int) (ms : List Ml) : (ms.filter (isDue tick)).map Ml.pure = (ms.map Ml.pure).filter (isDueP tick) := by
  rw [List.filter_map]
  rfl
theorem stay_pure (tick : Int) (ms : List Ml) : (ms.filter (fun m => !isDue tick m)).map Ml.pure = (ms.map Ml.pure).filter (fun x => !isDueP tick x) := by
  rw [List.filter_map]
  rfl
section
variable {α β : Type} {f : α → Int} {g : β → Int} {h : α → β}
theorem ins_map (hh : ∀ a, g (h a) = f a) (x : α) : ∀ l : List α, (ins f l x).map h = ins g (l.map h) (h x)
  | [] => rfl
  | y :: l => by
    rw [ins, List.map_cons, ins, hh, hh]
    split
    · rw [List.map_cons, ins_map hh x l]
    · rfl
theorem foldl_ins_map (hh : ∀ a, g (h a) = f a) : ∀ (l acc : List α), (l.foldl (ins f) acc).map h = (l.map h).foldl (ins g) (acc.map h)
  | [], acc => rfl
  | x :: l, acc => by
    rw [List.foldl_cons, List.map_cons, List.foldl_cons, foldl_ins_map hh l, ins_map hh]
theorem srt_map (hh : ∀ a, g (h a) = f a) (l : List α) : (srt f l).map h = srt g (l.map h) := foldl_ins_map hh l []
end
theorem srt_pure (l : List Ml) : (srt Ml.due l).map Ml.pure = srt (fun x : PMl => x.1) (l.map Ml.pure) := srt_map (f := Ml.due) (g := fun x : PMl => x.1) (h := Ml.pure) (fun _ => rfl) l
/-- The place of an insertion, from behind. -/
theorem ins_at {l : List Ml} {m : Ml} (h : Asc Ml.due l) {k : Nat} (hk : k ≤ l.length) (hb : ∀ x ∈ l.drop k, m.due < x.due) (ha : k = 0 ∨ ∃ hk' : k - 1 < l.length, ¬ m.due < l[k - 1].due) : ins Ml.due l m = l.take k ++ m :: l.drop k := by
  conv => lhs; rw [← List.take_append_drop k l]
  refine ins_between m _ hb _ (fun z hz => ?_)
  rcases ha with rfl | ⟨hk', h1⟩
  · simp at hz
  · obtain ⟨j, hj, rfl⟩ := List.getElem_of_mem hz
    rw [List.length_take] at hj
    rw [List.getElem_take]
    by_cases hjk : j = k - 1
    · subst hjk
      omega
    · have := List.pairwise_iff_getElem.1 h j (k - 1) (by omega) hk' (by omega)
      omega
end Go.Proofs.Ytiijgokgojjocaa
