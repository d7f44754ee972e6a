/- A net's bend. -/
import Derived.Test.YtiijgokgojjocaaNetP
import Derived.Test.YtiijgokgojjocaaRowOps
namespace Go.Proofs.Ytiijgokgojjocaa
open Go.RowKit Go.ChangeMaps Go.WideMaps Go.MapKept Go.WideShapes

/-- A bent byte. -/
def bentB (x by_ : Int) : Int := bits BinOp.xor IntKind.u8 x (1 + by_)
/-- Bytes that are bent by draws. -/
def bendL (xs : List Int) (s : Int) : List Int := if xs = [] then [] else xs.set (dbelow xs.length s).toNat (bentB (xs.getD (dbelow xs.length s).toNat 0) (dbelow 255 (dstep s)))
def bendS (xs : List Int) (s : Int) : Int := if xs = [] then s else dstep (dstep s)
theorem bendL_len (xs : List Int) (s : Int) : (bendL xs s).length = xs.length := by
  unfold bendL
  split
  · simp [*]
  · simp

theorem bent_i (v : Int) (h0 : 0 ≤ v) (h1 : v < 255) : IntKind.i64.wrap (1 + v) = 1 + v := IntWalk.i64_in _ (by omega)
theorem bent_u (v : Int) (h0 : 0 ≤ v) (h1 : v < 255) : IntKind.u8.wrap (1 + v) = 1 + v := by rw [IntKind.wrap_u8]; omega
def Bended (w : World) (d : Nat) (s : Int) (bb : Nat) (B : Option Addr) (nb c : Nat) (xs : List Int) (e : Ending) (w' : World) : Prop :=
  e = .returned (.tuple #[]) ∧ w'.ownsRow bb 5 1 (.slice B nb c) nb (u8s (bendL xs s)) ∧ Blk w' d 90 #[.int .u64 (bendS xs s)] ∧ Turn (d :: blks B) w w'

set_option maxHeartbeats 4000000 in
theorem bend_c (g d : Nat) (t : TypeId) (cs : Array Value) (s : Int) (bb : Nat) (B : Option Addr) (nb c : Nat) (xs : List Int) (w : World) (hg : Blk w g t cs) (hg0 : cs[0]? = some (.pointer (some ⟨d, 0, none⟩))) (hd : Blk w d 90 #[.int .u64 s]) (hgd : g ≠ d)
    (hB : w.ownsRow bb 5 1 (.slice B nb c) nb (u8s xs)) (_hgb : g < bb) (hdb : d < bb) (hn : nb ≤ 1000000) :
    Calls Try.prog 41 #[.pointer (some ⟨g, 0, none⟩), .slice B nb c] w (Bended w d s bb B nb c xs) := by
  have hlen : xs.length = nb := by have := hB.1; rw [u8s_len, Nat.mul_one] at this; exact this
  rcases Nat.eq_zero_or_pos nb with h0 | h0
  · subst h0
    obtain rfl := List.eq_nil_of_length_eq_zero hlen
    have HD := Lib.hid hd
    clear hg hg0 hd
    go_enter Try.func41, Try.ntmps41
    go_wp2_with fail
    go_end0
    exact ⟨rfl, hB, HD.out, Turn.refl _ _⟩
  · have hlow := own_ltA hB
    cases B with
    | none => have := hB.2; simp at this; omega
    | some a =>
      have hoff : ∃ gb, a = ⟨gb, 0, none⟩ := by
        rcases hB.2 with h1 | ⟨gb, cap', cur, hv, -⟩
        · simp at h1
        · cases hv; exact ⟨gb, rfl⟩
      obtain ⟨gb, rfl⟩ := hoff
      have g0 : w.cell? ⟨g, 0, none⟩ = some (.pointer (some ⟨d, 0, none⟩)) := by rw [hg.cell 0]; exact hg0
      have gl := hg.lt
      have HG := Lib.hid hg
      have hgbb := hlow gb (by simp [blks])
      have HB := Lib.hid hB
      have hne : xs ≠ [] := fun e => by rw [e] at hlen; simp at hlen; omega
      have i0 : (0 : Int) < (nb : Int) := by omega
      have hr := dbelow_range (s := s) (n := (nb : Int)) (by omega)
      have hr2 := dbelow_range (s := dstep s) (n := 255) (by omega)
      have BEL := Lib.hid (below_c d s nb w hd (by omega) (by omega))
      have HL := Lib.hid hlen
      obtain ⟨k, hk⟩ : ∃ k : Nat, dbelow (nb : Int) s = (k : Int) := ⟨(dbelow (nb : Int) s).toNat, by omega⟩
      have hkn : k < nb := by omega
      have hko : k < xs.length := by omega
      have HX := Lib.hid (show bendL xs s = xs.set k (bentB xs[k] (dbelow 255 (dstep s))) by
        unfold bendL
        rw [if_neg hne, hlen, hk]
        simp [List.getElem?_eq_getElem hko])
      have HS := Lib.hid (show bendS xs s = dstep (dstep s) by unfold bendS; rw [if_neg hne])
      have cellk : ∀ {w' : World}, w'.ownsRow bb 5 1 (.slice (some ⟨gb, 0, none⟩) nb c) nb (u8s xs) → w'.cell? ⟨gb, k, none⟩ = some (.int .u8 xs[k]) ∧ w'.frozen? ⟨gb, k, none⟩ = false := fun ho => by
        obtain ⟨b, off, hA, -, hc⟩ := u8s_at (Sl.of_own ho) hko
        cases hA
        obtain ⟨cur, hg', -⟩ := own_heap ho
        exact ⟨by simpa using hc, (show Blk _ gb _ cur from hg').frozen k⟩
      rw [hk] at BEL
      clear hg hd hB hlen hk hr
      go_enter Try.func41, Try.ntmps41
      go_wp2_with fail
      refine BEL.out.mono ?_
      rintro e w1 ⟨rfl, hd1, hT1⟩
      have G1 := hT1.blk HG.out (by simpa using hgd)
      have g01 : w1.cell? ⟨g, 0, none⟩ = some (.pointer (some ⟨d, 0, none⟩)) := by rw [G1.cell 0]; exact hg0
      have g1l := G1.lt
      have O1 := Lib.hid (own_turnA HB.out hT1 (by simp [blks]; omega))
      obtain ⟨k1, f1⟩ := cellk O1.out
      have BEL2 := Lib.hid (fun wz (h : Blk wz d 90 #[.int .u64 (dstep s)]) => below_c d (dstep s) 255 wz h (by omega) (by omega))
      have HD1 := Lib.hid hd1
      clear hd1 g0 gl
      go_wp2_with fail
      have k0 : (0 : Int) ≤ (k : Int) := Int.natCast_nonneg _
      have k2 : (k : Int) < (nb : Int) := by omega
      have cw := bent_i _ hr2.1 hr2.2
      have cu := bent_u _ hr2.1 hr2.2
      unfold bentB at HX
      generalize dbelow 255 (dstep s) = v at *
      go_region_law (first | (go_simp; go_at_call 40; refine (BEL2.out _ (by first | exact HD1.out | exact (show Blk w1.drew d _ _ from HD1.out))).mono ?_; rintro e w2 ⟨rfl, hd2, hT2⟩; have T12 : Turn [d] w1 w2 := ((Turn.refl [d] w1).drew).trans hT2; have O2 := Lib.hid (own_turnA O1.out T12 (by simp [blks]; omega)); obtain ⟨k2', f2'⟩ := cellk O2.out))
      all_goals
        go_wp2_with fail
        go_end0
        refine ⟨rfl, ?_, ?_, ?_⟩
        · rw [HX.out]
          have := own_set O2.out k (by omega) (.int .u8 (bits BinOp.xor IntKind.u8 xs[k] (1 + v)))
          simpa [u8s, List.map_set] using this
        · rw [HS.out]
          exact hd2.far (by simp; omega) _
        · exact ((hT1.mono (by simp)).trans (T12.mono (by simp))).setCell (.inl (by simp [blks])) _
end Go.Proofs.Ytiijgokgojjocaa
