/- A net's Cut. -/
import Derived.Test.YtiijgokgojjocaaNetOps
namespace Go.Proofs.Ytiijgokgojjocaa
open Go.RowKit Go.ChangeMaps Go.WideMaps Go.MapKept Go.WideShapes

section
variable {P : Program} {k t e ti : TypeId} {es : Array MapEntry} {clock : Nat} {m : PM}
/-- A new key's store, the same in every world. -/
theorem PairsIs.store_new (h : PairsIs es clock m) (K : Maps.Keyed P k) (hk : ∀ x : Int × Int, wfP x → ∃ l, keyOf P k (pk x) = some l) (ht : P.underlying t = some (.map k e)) {x : Int × Int} (hx : wfP x) (hn : ∀ p ∈ m, p.1 ≠ x) (v : Value) :
    PairsIs (es.push ⟨pk x, v, clock⟩) (clock + 1) (m ++ [(x, v)]) ∧ ∀ (w : World) (b : Nat), w.heap[b]? = some (.map es clock) → (Instr.mapUpdate t (.map (some b)) (pk x) v).run P w = .ok () (setBlock w b (.map (es.push ⟨pk x, v, clock⟩) (clock + 1))) := by
  obtain ⟨l, hl⟩ := hk x hx
  have no : ∀ j u, m[j]? = some (x, u) → False := fun j u hj => hn _ (List.mem_of_getElem? hj) rfl
  refine ⟨⟨MapKept.stamped_push h.stamped (fun e he hk0 => ?_), ?_, ?_, ?_⟩, fun w b hb => ?_⟩
  · have h1' : (e.key, e.val) ∈ es.toList.map (fun e => (e.key, e.val)) := List.mem_map.2 ⟨e, he, rfl⟩
    rw [h.ents] at h1'
    obtain ⟨p, hp, h2'⟩ := List.mem_map.1 h1'
    have h3' : pk p.1 = e.key := congrArg Prod.fst h2'
    exact hn p hp (pk_inj (h3'.trans hk0))
  · simp [h.ents]
  · intro p hp
    rcases List.mem_append.1 hp with h6 | h6
    · exact h.keys p h6
    · simp at h6; subst h6; exact hx
  · rw [List.map_append, List.nodup_append]
    refine ⟨h.nodup, by simp, ?_⟩
    intro a ha b hb
    simp at hb
    subst hb
    obtain ⟨q, hq, rfl⟩ := List.mem_map.1 ha
    exact hn q hq
  · rcases h.find K hk hx w with ⟨h1, h2⟩ | ⟨j, u, h1, h2, -⟩
    · simp [Instr.mapUpdate, run_underlying ht, MapKept.run_getObj_map hb, K.check w false hl, h1, MapKept.run_setObj_map _ hb, Result.andThen, setBlock]
    · exact absurd h2 (fun hh => no _ _ hh)
end

section
variable {w w' wr wi wf : World} {g d cb kb : Nat} {s s' : Int} {r : Rl} {cut : List (Int × Int)} {came : List ((Int × Int) × Int)} {base : Nat} {A : Option Addr} {n cap : Nat} {ms : List Ml} {sent lost told : Int}
/-- What a cut answers, and what is cut behind it. -/
def cutRes (cut : List (Int × Int)) (a b : Int) : Int × List (Int × Int) :=
  if a = b then (1, cut) else if pairOf a b ∈ cut then (8, cut) else if cut.length = 64 then (6, cut) else (0, cut ++ [pairOf a b])
def CutDone (w : World) (g d cb kb : Nat) (s : Int) (r : Rl) (cut : List (Int × Int)) (came : List ((Int × Int) × Int)) (base : Nat) (A : Option Addr) (n cap : Nat) (ms : List Ml) (sent lost told a b : Int) (e : Ending) (w' : World) : Prop :=
  e = .returned (.int .i64 (cutRes cut a b).1) ∧ NetIs w' g d cb kb s r (cutRes cut a b).2 came base A n cap ms sent lost told ∧ Turn [cb] w w'
set_option maxRecDepth 100000 in
set_option maxHeartbeats 4000000 in
theorem cut_c (h : NetIs w g d cb kb s r cut came base A n cap ms sent lost told) (a b : Int) (ha : wf64 a) (hb : wf64 b) :
    Calls Try.prog 16 #[.pointer (some ⟨g, 0, none⟩), .int .i64 a, .int .i64 b] w (CutDone w g d cb kb s r cut came base A n cap ms sent lost told a b) := by
  have wp := wfP_pair ha hb
  have PC := Lib.hid (pair_c a b)
  have H0 := Lib.hid h
  have gl0 := h.lts.1
  obtain ⟨-, -, -, -, -, c5, -⟩ := h.cells
  clear h
  by_cases hab : a = b
  · have RS := Lib.hid (show cutRes cut a b = (1, cut) by unfold cutRes; rw [if_pos hab])
    have h1 : (a == b) = true := by simpa using hab
    clear hab
    go_enter Try.func16, Try.ntmps16
    go_wp2_with fail
    go_ret
    exact ⟨by rw [RS.out]; simp, by rw [RS.out]; exact H0.out, Turn.refl _ _⟩
  · have h1 : (a == b) = false := by simpa using hab
    have HAB := Lib.hid hab
    clear hab
    by_cases hc : pairOf a b ∈ cut
    · have hd : decide (pairOf a b ∈ cut) = true := by simpa using hc
      have RS := Lib.hid (show cutRes cut a b = (8, cut) by unfold cutRes; rw [if_neg HAB.out, if_pos hc])
      have AE : ∀ wy, Turn [] w wy → (wy.cell? ⟨g, 5, none⟩ = some (.map (some cb)) ∧ (Instr.lookup 75 (.map (some cb)) (pk (pairOf a b)) false).run Try.prog wy = .ok (.bool true) wy ∧ Turn [] w wy) := fun wy hy =>
        ⟨(hy.cell gl0 (by simp)).trans c5, by rw [(H0.out.turn hy (by simp)).lookCut wp, hd], hy⟩
      have AE' := Lib.hid AE
      have T00 := (Turn.refl [] w).drew
      clear AE hd hc wp c5
      go_enter Try.func16, Try.ntmps16
      go_wp2_with fail
      go_region_held3 (fun wy => wy.cell? ⟨g, 5, none⟩ = some (.map (some cb)) ∧ (Instr.lookup 75 (.map (some cb)) (pk (pairOf a b)) false).run Try.prog wy = .ok (.bool true) wy ∧ Turn [] w wy) (first | exact AE'.out _ (by assumption))
        ((go_at_call 36; refine (PC.out _).mono ?_; rintro e w1 ⟨rfl, hT1⟩; have T1 : Turn [] w w1 := Turn.trans T00 hT1))
      go_wp2_with fail
      go_ret
      exact ⟨by rw [RS.out]; simp, by rw [RS.out]; exact H0.out.turn T1 (by simp), T1.mono (by simp)⟩
    · have hd : decide (pairOf a b ∈ cut) = false := by simpa using hc
      have HC := Lib.hid hc
      have AE : ∀ wy, Turn [] w wy → (wy.cell? ⟨g, 5, none⟩ = some (.map (some cb)) ∧ (Instr.lookup 75 (.map (some cb)) (pk (pairOf a b)) false).run Try.prog wy = .ok (.bool false) wy ∧ Turn [] w wy) := fun wy hy =>
        ⟨(hy.cell gl0 (by simp)).trans c5, by rw [(H0.out.turn hy (by simp)).lookCut wp, hd], hy⟩
      have AE' := Lib.hid AE
      have T00 := (Turn.refl [] w).drew
      have WP := Lib.hid wp
      clear AE hd hc wp c5
      go_enter Try.func16, Try.ntmps16
      go_wp2_with fail
      go_region_held3 (fun wy => wy.cell? ⟨g, 5, none⟩ = some (.map (some cb)) ∧ (Instr.lookup 75 (.map (some cb)) (pk (pairOf a b)) false).run Try.prog wy = .ok (.bool false) wy ∧ Turn [] w wy) (first | exact AE'.out _ (by assumption))
        ((go_at_call 36; refine (PC.out _).mono ?_; rintro e w1 ⟨rfl, hT1⟩; have T1 : Turn [] w w1 := Turn.trans T00 hT1))
      have H1 := Lib.hid (H0.out.turn T1 (by simp))
      have HT1 := Lib.hid T1
      obtain ⟨-, -, -, -, -, d5, -⟩ := H1.out.cells
      have gl1 := H1.out.lts.1
      obtain ⟨es, k, e1, e2⟩ := H1.out.cutm
      have LN := fun ty => e2.len Try.underlying75 ty w1 cb e1
      rw [cutPM_len] at LN
      obtain ⟨P2, ST⟩ := e2.store_new keyedP keyP Try.underlying75 WP.out (fun p hp => by
        obtain ⟨q, hq, rfl⟩ := List.mem_map.1 hp
        exact fun e => HC.out (e ▸ hq)) (.bool true)
      have hcc : cutPM cut ++ [(pairOf a b, .bool true)] = cutPM (cut ++ [pairOf a b]) := by simp [cutPM]
      rw [hcc] at P2
      have HP2 := Lib.hid P2
      have HST := Lib.hid ST
      have HE1 := Lib.hid e1
      clear AE' T1 hT1 P2 ST e1 e2 hcc
      by_cases h64 : cut.length = 64
      · have RS := Lib.hid (show cutRes cut a b = (6, cut) by unfold cutRes; rw [if_neg HAB.out, if_neg HC.out, if_pos h64])
        have h2 : ((cut.length : Int) == 64) = true := by simp; omega
        clear h64
        go_wp2_with fail
        go_ret
        exact ⟨by rw [RS.out]; simp, by rw [RS.out]; exact H1.out, HT1.out.mono (by simp)⟩
      · have RS := Lib.hid (show cutRes cut a b = (0, cut ++ [pairOf a b]) by unfold cutRes; rw [if_neg HAB.out, if_neg HC.out, if_neg h64])
        have h2 : ((cut.length : Int) == 64) = false := by simp; omega
        clear h64
        have hgc := H1.out.apart.2.1
        have AE : ∀ wy, Turn [cb] w1 wy → (wy.cell? ⟨g, 5, none⟩ = some (.map (some cb)) ∧ Turn [cb] w1 wy) := fun wy hy => ⟨(hy.cell gl1 (by simpa using hgc)).trans d5, hy⟩
        have AE2 := Lib.hid AE
        have T11 := (Turn.refl [] w1).drew
        have T12 := (Turn.refl [cb] w1).drew
        clear AE
        go_wp2_with fail
        clear LN
        go_region_held3 (fun wy => wy.cell? ⟨g, 5, none⟩ = some (.map (some cb)) ∧ Turn [cb] w1 wy) (first | exact AE2.out _ (by assumption) | exact AE2.out _ (Turn.setBlock (by assumption) (.inl (by simp)) _))
          ((go_at_call 36; refine (PC.out _).mono ?_; rintro e w2 ⟨rfl, hT2⟩; have T2e : Turn [] w1 w2 := Turn.trans T11 hT2; have T2 : Turn [cb] w1 w2 := T2e.mono (by simp); have MU := HST.out w2 cb (Turn.obj T2e HE1.out (by simp))))
        go_wp2_with fail
        go_ret
        have NC := (H1.out.turn T2e (by simp)).setCut HP2.out
        exact ⟨by rw [RS.out]; simp, by rw [RS.out]; exact NC.1, ((HT1.out.trans T2e).mono (by simp)).trans NC.2⟩
end
end Go.Proofs.Ytiijgokgojjocaa
