/- Contracts of nil draws and nil rounds. -/
import Derived.Test.YtibepkipbmfonaaProbeK
import Derived.Test.YtibepkipbmfonaaSame8
namespace Go.Proofs.Ytibepkipbmfonaa
open Go.RowKit Go.ChangeMaps

theorem dnext_nil (w : World) : Calls Try.prog 16 #[.pointer none] w fun e w' => e = .returned (.int .u64 0) ∧ w = w' := by
  go_enter Try.func16, Try.ntmps16
  go_wp2_with fail
  go_ret
  exact ⟨by simp, rfl⟩
theorem below_nil (n : Int) (w : World) (h2 : n ≤ 9223372036854775807) : Calls Try.prog 18 #[.pointer none, .int .i64 n] w fun e w' => e = .returned (.int .i64 0) ∧ w = w' := by
  by_cases h1 : n < 1
  · exact below_no _ n w h1
  · have hw : IntKind.u64.wrap n = n := by rw [IntKind.wrap_u64]; omega
    have hz : n ≠ 0 := by omega
    go_enter Try.func18, Try.ntmps18
    go_wp2_with fail
    refine (dnext_nil _).mono ?_
    rintro e w1 ⟨rfl, rfl⟩
    go_wp2_with fail
    go_ret
    exact ⟨by simp, rfl⟩
theorem mix_nil (A : Option Addr) (n c : Nat) (xs : List Int) (w : World) (hx : Sl w A (i64s xs)) (hn : xs.length = n) (hl : n ≤ 17592186044416) :
    Calls Try.prog 21 #[.pointer none, .slice A n c] w (NewInts w n xs) := by
  have CL := Lib.hid (cloneI_c A n c xs w hx hn hl)
  clear hn
  go_enter Try.func21, Try.ntmps21
  go_wp2_with fail
  refine CL.out.mono ?_
  rintro e w1 ⟨A', c', rfl, hown, hT⟩
  go_wp2_with fail
  go_loopw [6] (fun i wr => i = .int .i64 ((n : Int) - 1) ∧ wr = w1) (fun _ _ => 0)
  case atStart => exact ⟨rfl, rfl⟩
  case round =>
    obtain ⟨rfl, rfl⟩ := hrel
    by_cases h1 : 1 < n
    · have h1' : (0 : Int) < (n : Int) - 1 := by omega
      go_wp2_with fail
      go_ret
      exact ⟨A', c', by simp, hown, hT⟩
    · have h1' : ¬ (0 : Int) < (n : Int) - 1 := by omega
      go_wp2_with fail
      go_ret
      exact ⟨A', c', by simp, hown, hT⟩
/-- The j-th of a number's eight bytes. -/
def eightP : Nat → Int | 0 => 72057594037927936 | 1 => 281474976710656 | 2 => 1099511627776 | 3 => 4294967296 | 4 => 16777216 | 5 => 65536 | 6 => 256 | _ => 1
def eightB (x : Int) (j : Nat) : Int := IntKind.u8.wrap (x / eightP j)
def eb (x : Int) (j k : Nat) : Value := .int .u8 (if j < k then eightB x j else 0)
/-- The array with the first k bytes filled in. -/
def eightA (x : Int) (k : Nat) : Array Value := #[eb x 0 k, eb x 1 k, eb x 2 k, eb x 3 k, eb x 4 k, eb x 5 k, eb x 6 k, eb x 7 k]

def z8 : Array Value := #[.int .u8 0, .int .u8 0, .int .u8 0, .int .u8 0, .int .u8 0, .int .u8 0, .int .u8 0, .int .u8 0]

/-- A block's eight cells, stored one after the other. -/
@[reducible] def set8 (w : World) (g : Nat) (f : Nat → Value) : World := ((((((((w.setCell ⟨g, 0, none⟩ (f 0)).setCell ⟨g, 1, none⟩ (f 1)).setCell ⟨g, 2, none⟩ (f 2)).setCell ⟨g, 3, none⟩ (f 3)).setCell ⟨g, 4, none⟩ (f 4)).setCell ⟨g, 5, none⟩ (f 5)).setCell ⟨g, 6, none⟩ (f 6)).setCell ⟨g, 7, none⟩ (f 7))
theorem set8_turn (w : World) (g : Nat) (f : Nat → Value) : Turn [g] w (set8 w g f) := by
  unfold set8
  have h : ∀ (i : Nat), Addr.block ⟨g, i, none⟩ ∈ [g] := fun i => by simp
  exact Turn.setCell (Turn.setCell (Turn.setCell (Turn.setCell (Turn.setCell (Turn.setCell (Turn.setCell (Turn.setCell (Turn.refl [g] w) (.inl (h 0)) _) (.inl (h 1)) _) (.inl (h 2)) _) (.inl (h 3)) _) (.inl (h 4)) _) (.inl (h 5)) _) (.inl (h 6)) _) (.inl (h 7)) _
theorem set8_blk {w : World} {g : Nat} {T : TypeId} {a0 a1 a2 a3 a4 a5 a6 a7 : Value} (h : Blk w g T #[a0, a1, a2, a3, a4, a5, a6, a7]) (f : Nat → Value) : Blk (set8 w g f) g T #[f 0, f 1, f 2, f 3, f 4, f 5, f 6, f 7] := by
  have h0 : Blk (w.setCell ⟨g, 0, none⟩ (f 0)) g T #[f 0, a1, a2, a3, a4, a5, a6, a7] := by simpa using h.set_ 0 (f 0)
  have h1 : Blk ((w.setCell ⟨g, 0, none⟩ (f 0)).setCell ⟨g, 1, none⟩ (f 1)) g T #[f 0, f 1, a2, a3, a4, a5, a6, a7] := by simpa using h0.set_ 1 (f 1)
  have h2 : Blk (((w.setCell ⟨g, 0, none⟩ (f 0)).setCell ⟨g, 1, none⟩ (f 1)).setCell ⟨g, 2, none⟩ (f 2)) g T #[f 0, f 1, f 2, a3, a4, a5, a6, a7] := by simpa using h1.set_ 2 (f 2)
  have h3 : Blk ((((w.setCell ⟨g, 0, none⟩ (f 0)).setCell ⟨g, 1, none⟩ (f 1)).setCell ⟨g, 2, none⟩ (f 2)).setCell ⟨g, 3, none⟩ (f 3)) g T #[f 0, f 1, f 2, f 3, a4, a5, a6, a7] := by simpa using h2.set_ 3 (f 3)
  have h4 : Blk (((((w.setCell ⟨g, 0, none⟩ (f 0)).setCell ⟨g, 1, none⟩ (f 1)).setCell ⟨g, 2, none⟩ (f 2)).setCell ⟨g, 3, none⟩ (f 3)).setCell ⟨g, 4, none⟩ (f 4)) g T #[f 0, f 1, f 2, f 3, f 4, a5, a6, a7] := by simpa using h3.set_ 4 (f 4)
  have h5 : Blk ((((((w.setCell ⟨g, 0, none⟩ (f 0)).setCell ⟨g, 1, none⟩ (f 1)).setCell ⟨g, 2, none⟩ (f 2)).setCell ⟨g, 3, none⟩ (f 3)).setCell ⟨g, 4, none⟩ (f 4)).setCell ⟨g, 5, none⟩ (f 5)) g T #[f 0, f 1, f 2, f 3, f 4, f 5, a6, a7] := by simpa using h4.set_ 5 (f 5)
  have h6 : Blk (((((((w.setCell ⟨g, 0, none⟩ (f 0)).setCell ⟨g, 1, none⟩ (f 1)).setCell ⟨g, 2, none⟩ (f 2)).setCell ⟨g, 3, none⟩ (f 3)).setCell ⟨g, 4, none⟩ (f 4)).setCell ⟨g, 5, none⟩ (f 5)).setCell ⟨g, 6, none⟩ (f 6)) g T #[f 0, f 1, f 2, f 3, f 4, f 5, f 6, a7] := by simpa using h5.set_ 6 (f 6)
  have h7 : Blk ((((((((w.setCell ⟨g, 0, none⟩ (f 0)).setCell ⟨g, 1, none⟩ (f 1)).setCell ⟨g, 2, none⟩ (f 2)).setCell ⟨g, 3, none⟩ (f 3)).setCell ⟨g, 4, none⟩ (f 4)).setCell ⟨g, 5, none⟩ (f 5)).setCell ⟨g, 6, none⟩ (f 6)).setCell ⟨g, 7, none⟩ (f 7)) g T #[f 0, f 1, f 2, f 3, f 4, f 5, f 6, f 7] := by simpa using h6.set_ 7 (f 7)
  exact h7

theorem set8_facts {w : World} {g : Nat} {T : TypeId} {a0 a1 a2 a3 a4 a5 a6 a7 : Value} (h : Blk w g T #[a0, a1, a2, a3, a4, a5, a6, a7]) (f : Nat → Value) :
    (w.cell? ⟨g, 0, none⟩ = some a0 ∧ w.frozen? ⟨g, 0, none⟩ = false) ∧
    ((w.setCell ⟨g, 0, none⟩ (f 0)).cell? ⟨g, 1, none⟩ = some a1 ∧ (w.setCell ⟨g, 0, none⟩ (f 0)).frozen? ⟨g, 1, none⟩ = false) ∧
    (((w.setCell ⟨g, 0, none⟩ (f 0)).setCell ⟨g, 1, none⟩ (f 1)).cell? ⟨g, 2, none⟩ = some a2 ∧ ((w.setCell ⟨g, 0, none⟩ (f 0)).setCell ⟨g, 1, none⟩ (f 1)).frozen? ⟨g, 2, none⟩ = false) ∧
    ((((w.setCell ⟨g, 0, none⟩ (f 0)).setCell ⟨g, 1, none⟩ (f 1)).setCell ⟨g, 2, none⟩ (f 2)).cell? ⟨g, 3, none⟩ = some a3 ∧ (((w.setCell ⟨g, 0, none⟩ (f 0)).setCell ⟨g, 1, none⟩ (f 1)).setCell ⟨g, 2, none⟩ (f 2)).frozen? ⟨g, 3, none⟩ = false) ∧
    (((((w.setCell ⟨g, 0, none⟩ (f 0)).setCell ⟨g, 1, none⟩ (f 1)).setCell ⟨g, 2, none⟩ (f 2)).setCell ⟨g, 3, none⟩ (f 3)).cell? ⟨g, 4, none⟩ = some a4 ∧ ((((w.setCell ⟨g, 0, none⟩ (f 0)).setCell ⟨g, 1, none⟩ (f 1)).setCell ⟨g, 2, none⟩ (f 2)).setCell ⟨g, 3, none⟩ (f 3)).frozen? ⟨g, 4, none⟩ = false) ∧
    ((((((w.setCell ⟨g, 0, none⟩ (f 0)).setCell ⟨g, 1, none⟩ (f 1)).setCell ⟨g, 2, none⟩ (f 2)).setCell ⟨g, 3, none⟩ (f 3)).setCell ⟨g, 4, none⟩ (f 4)).cell? ⟨g, 5, none⟩ = some a5 ∧ (((((w.setCell ⟨g, 0, none⟩ (f 0)).setCell ⟨g, 1, none⟩ (f 1)).setCell ⟨g, 2, none⟩ (f 2)).setCell ⟨g, 3, none⟩ (f 3)).setCell ⟨g, 4, none⟩ (f 4)).frozen? ⟨g, 5, none⟩ = false) ∧
    (((((((w.setCell ⟨g, 0, none⟩ (f 0)).setCell ⟨g, 1, none⟩ (f 1)).setCell ⟨g, 2, none⟩ (f 2)).setCell ⟨g, 3, none⟩ (f 3)).setCell ⟨g, 4, none⟩ (f 4)).setCell ⟨g, 5, none⟩ (f 5)).cell? ⟨g, 6, none⟩ = some a6 ∧ ((((((w.setCell ⟨g, 0, none⟩ (f 0)).setCell ⟨g, 1, none⟩ (f 1)).setCell ⟨g, 2, none⟩ (f 2)).setCell ⟨g, 3, none⟩ (f 3)).setCell ⟨g, 4, none⟩ (f 4)).setCell ⟨g, 5, none⟩ (f 5)).frozen? ⟨g, 6, none⟩ = false) ∧
    ((((((((w.setCell ⟨g, 0, none⟩ (f 0)).setCell ⟨g, 1, none⟩ (f 1)).setCell ⟨g, 2, none⟩ (f 2)).setCell ⟨g, 3, none⟩ (f 3)).setCell ⟨g, 4, none⟩ (f 4)).setCell ⟨g, 5, none⟩ (f 5)).setCell ⟨g, 6, none⟩ (f 6)).cell? ⟨g, 7, none⟩ = some a7 ∧ (((((((w.setCell ⟨g, 0, none⟩ (f 0)).setCell ⟨g, 1, none⟩ (f 1)).setCell ⟨g, 2, none⟩ (f 2)).setCell ⟨g, 3, none⟩ (f 3)).setCell ⟨g, 4, none⟩ (f 4)).setCell ⟨g, 5, none⟩ (f 5)).setCell ⟨g, 6, none⟩ (f 6)).frozen? ⟨g, 7, none⟩ = false) := by
  have h0 : Blk (w.setCell ⟨g, 0, none⟩ (f 0)) g T #[f 0, a1, a2, a3, a4, a5, a6, a7] := by simpa using h.set_ 0 (f 0)
  have h1 : Blk ((w.setCell ⟨g, 0, none⟩ (f 0)).setCell ⟨g, 1, none⟩ (f 1)) g T #[f 0, f 1, a2, a3, a4, a5, a6, a7] := by simpa using h0.set_ 1 (f 1)
  have h2 : Blk (((w.setCell ⟨g, 0, none⟩ (f 0)).setCell ⟨g, 1, none⟩ (f 1)).setCell ⟨g, 2, none⟩ (f 2)) g T #[f 0, f 1, f 2, a3, a4, a5, a6, a7] := by simpa using h1.set_ 2 (f 2)
  have h3 : Blk ((((w.setCell ⟨g, 0, none⟩ (f 0)).setCell ⟨g, 1, none⟩ (f 1)).setCell ⟨g, 2, none⟩ (f 2)).setCell ⟨g, 3, none⟩ (f 3)) g T #[f 0, f 1, f 2, f 3, a4, a5, a6, a7] := by simpa using h2.set_ 3 (f 3)
  have h4 : Blk (((((w.setCell ⟨g, 0, none⟩ (f 0)).setCell ⟨g, 1, none⟩ (f 1)).setCell ⟨g, 2, none⟩ (f 2)).setCell ⟨g, 3, none⟩ (f 3)).setCell ⟨g, 4, none⟩ (f 4)) g T #[f 0, f 1, f 2, f 3, f 4, a5, a6, a7] := by simpa using h3.set_ 4 (f 4)
  have h5 : Blk ((((((w.setCell ⟨g, 0, none⟩ (f 0)).setCell ⟨g, 1, none⟩ (f 1)).setCell ⟨g, 2, none⟩ (f 2)).setCell ⟨g, 3, none⟩ (f 3)).setCell ⟨g, 4, none⟩ (f 4)).setCell ⟨g, 5, none⟩ (f 5)) g T #[f 0, f 1, f 2, f 3, f 4, f 5, a6, a7] := by simpa using h4.set_ 5 (f 5)
  have h6 : Blk (((((((w.setCell ⟨g, 0, none⟩ (f 0)).setCell ⟨g, 1, none⟩ (f 1)).setCell ⟨g, 2, none⟩ (f 2)).setCell ⟨g, 3, none⟩ (f 3)).setCell ⟨g, 4, none⟩ (f 4)).setCell ⟨g, 5, none⟩ (f 5)).setCell ⟨g, 6, none⟩ (f 6)) g T #[f 0, f 1, f 2, f 3, f 4, f 5, f 6, a7] := by simpa using h5.set_ 6 (f 6)
  have h7 : Blk ((((((((w.setCell ⟨g, 0, none⟩ (f 0)).setCell ⟨g, 1, none⟩ (f 1)).setCell ⟨g, 2, none⟩ (f 2)).setCell ⟨g, 3, none⟩ (f 3)).setCell ⟨g, 4, none⟩ (f 4)).setCell ⟨g, 5, none⟩ (f 5)).setCell ⟨g, 6, none⟩ (f 6)).setCell ⟨g, 7, none⟩ (f 7)) g T #[f 0, f 1, f 2, f 3, f 4, f 5, f 6, f 7] := by simpa using h6.set_ 7 (f 7)
  exact ⟨⟨by simpa using h.cell 0, h.frozen 0⟩, ⟨by simpa using h0.cell 1, h0.frozen 1⟩, ⟨by simpa using h1.cell 2, h1.frozen 2⟩, ⟨by simpa using h2.cell 3, h2.frozen 3⟩, ⟨by simpa using h3.cell 4, h3.frozen 4⟩, ⟨by simpa using h4.cell 5, h4.frozen 5⟩, ⟨by simpa using h5.cell 6, h5.frozen 6⟩, ⟨by simpa using h6.cell 7, h6.frozen 7⟩⟩

set_option maxRecDepth 100000 in
set_option maxHeartbeats 2000000 in
theorem eight_of (v : Value) (x : Int) (hx0 : 0 ≤ x) (hx1 : x ≤ 18446744073709551615) (w : World) (R : World → Prop)
    (h : Calls Try.prog 16 #[v] (w.alloc (.cells z8 51)) fun e w' => e = .returned (.int .u64 x) ∧ R w' ∧ Blk w' w.heap.size 51 z8) :
    Calls Try.prog 22 #[v] w fun e w' => e = .returned (.agg (eightA x 8)) ∧ ∃ wm, R wm ∧ Turn [w.heap.size] wm w' := by
  have H := Lib.hid h
  clear h
  go_enter Try.func22, Try.ntmps22
  go_wp2_with fail
  refine H.out.mono ?_
  rintro e w1 ⟨rfl, hR, hBr1⟩
  go_wp2_with fail
  have B0 := Blk.new w1 51 z8
  have hV0 : x / 72057594037927936 = eightB x 0 := by show _ = IntKind.u8.wrap (x / 72057594037927936); rw [IntKind.wrap_u8]; omega
  have hV7 : x % 256 = eightB x 7 := by show _ = IntKind.u8.wrap (x / 1); rw [Int.ediv_one, IntKind.wrap_u8]
  have HV0 := Lib.hid hV0
  have HV7 := Lib.hid hV7
  clear hV0 hV7
  go_loopw [5, 8] (fun _ i wr => ∃ k : Nat, k ≤ 8 ∧ i = .int .i64 k ∧ Blk wr w1.heap.size 51 (eightA x k) ∧ Turn [] w1 wr) (fun _ i _ => 8 - (intOf i).toNat)
  case atStart => exact ⟨0, by omega, rfl, B0, (Turn.refl _ _).alloc _⟩
  case round =>
    obtain ⟨k, hk, rfl, hB, hT⟩ := hrel
    have hc : k = 0 ∨ k = 1 ∨ k = 2 ∨ k = 3 ∨ k = 4 ∨ k = 5 ∨ k = 6 ∨ k = 7 ∨ k = 8 := by omega
    rcases hc with rfl | rfl | rfl | rfl | rfl | rfl | rfl | rfl | rfl
    · have c0 := hB.cell 0
      have f0 := hB.frozen 0
      go_wp2_with fail
      go_roundw
      case rel => exact ⟨1, by omega, by go_num, (by rw [HV0.out]; exact hB.set_ 0 (.int .u8 (eightB x 0))), hT.setCell (.inr (Nat.le_refl _)) _⟩
      case measure => simp [intOf]
    · have c0 := hB.cell 1
      have f0 := hB.frozen 1
      go_wp2_with fail
      go_roundw
      case rel => exact ⟨2, by omega, by go_num, (hB.set_ 1 (.int .u8 (eightB x 1))), hT.setCell (.inr (Nat.le_refl _)) _⟩
      case measure => simp [intOf]
    · have c0 := hB.cell 2
      have f0 := hB.frozen 2
      go_wp2_with fail
      go_roundw
      case rel => exact ⟨3, by omega, by go_num, (hB.set_ 2 (.int .u8 (eightB x 2))), hT.setCell (.inr (Nat.le_refl _)) _⟩
      case measure => simp [intOf]
    · have c0 := hB.cell 3
      have f0 := hB.frozen 3
      go_wp2_with fail
      go_roundw
      case rel => exact ⟨4, by omega, by go_num, (hB.set_ 3 (.int .u8 (eightB x 3))), hT.setCell (.inr (Nat.le_refl _)) _⟩
      case measure => simp [intOf]
    · have c0 := hB.cell 4
      have f0 := hB.frozen 4
      go_wp2_with fail
      go_roundw
      case rel => exact ⟨5, by omega, by go_num, (hB.set_ 4 (.int .u8 (eightB x 4))), hT.setCell (.inr (Nat.le_refl _)) _⟩
      case measure => simp [intOf]
    · have c0 := hB.cell 5
      have f0 := hB.frozen 5
      go_wp2_with fail
      go_roundw
      case rel => exact ⟨6, by omega, by go_num, (hB.set_ 5 (.int .u8 (eightB x 5))), hT.setCell (.inr (Nat.le_refl _)) _⟩
      case measure => simp [intOf]
    · have c0 := hB.cell 6
      have f0 := hB.frozen 6
      go_wp2_with fail
      go_roundw
      case rel => exact ⟨7, by omega, by go_num, (hB.set_ 6 (.int .u8 (eightB x 6))), hT.setCell (.inr (Nat.le_refl _)) _⟩
      case measure => simp [intOf]
    · have c0 := hB.cell 7
      have f0 := hB.frozen 7
      go_wp2_with fail
      go_roundw
      case rel => exact ⟨8, by omega, by go_num, (by rw [HV7.out]; exact hB.set_ 7 (.int .u8 (eightB x 7))), hT.setCell (.inr (Nat.le_refl _)) _⟩
      case measure => simp [intOf]
    · have c0 : wr.cell? ⟨w1.heap.size, 0, none⟩ = some (.int .u8 (eightB x 0)) := hB.cell 0
      have c1 : wr.cell? ⟨w1.heap.size, 1, none⟩ = some (.int .u8 (eightB x 1)) := hB.cell 1
      have c2 : wr.cell? ⟨w1.heap.size, 2, none⟩ = some (.int .u8 (eightB x 2)) := hB.cell 2
      have c3 : wr.cell? ⟨w1.heap.size, 3, none⟩ = some (.int .u8 (eightB x 3)) := hB.cell 3
      have c4 : wr.cell? ⟨w1.heap.size, 4, none⟩ = some (.int .u8 (eightB x 4)) := hB.cell 4
      have c5 : wr.cell? ⟨w1.heap.size, 5, none⟩ = some (.int .u8 (eightB x 5)) := hB.cell 5
      have c6 : wr.cell? ⟨w1.heap.size, 6, none⟩ = some (.int .u8 (eightB x 6)) := hB.cell 6
      have c7 : wr.cell? ⟨w1.heap.size, 7, none⟩ = some (.int .u8 (eightB x 7)) := hB.cell 7
      have hBr := hT.blk hBr1 (by simp)
      have hR8 := set8_blk hBr (fun j => .int .u8 (eightB x j))
      have hT8 := (hT.mono (S' := [w.heap.size]) (by simp)).trans (set8_turn wr w.heap.size (fun j => .int .u8 (eightB x j)))
      have r0 : (set8 wr w.heap.size (fun j => .int .u8 (eightB x j))).cell? ⟨w.heap.size, 0, none⟩ = some (.int .u8 (eightB x 0)) := hR8.cell 0
      have r1 : (set8 wr w.heap.size (fun j => .int .u8 (eightB x j))).cell? ⟨w.heap.size, 1, none⟩ = some (.int .u8 (eightB x 1)) := hR8.cell 1
      have r2 : (set8 wr w.heap.size (fun j => .int .u8 (eightB x j))).cell? ⟨w.heap.size, 2, none⟩ = some (.int .u8 (eightB x 2)) := hR8.cell 2
      have r3 : (set8 wr w.heap.size (fun j => .int .u8 (eightB x j))).cell? ⟨w.heap.size, 3, none⟩ = some (.int .u8 (eightB x 3)) := hR8.cell 3
      have r4 : (set8 wr w.heap.size (fun j => .int .u8 (eightB x j))).cell? ⟨w.heap.size, 4, none⟩ = some (.int .u8 (eightB x 4)) := hR8.cell 4
      have r5 : (set8 wr w.heap.size (fun j => .int .u8 (eightB x j))).cell? ⟨w.heap.size, 5, none⟩ = some (.int .u8 (eightB x 5)) := hR8.cell 5
      have r6 : (set8 wr w.heap.size (fun j => .int .u8 (eightB x j))).cell? ⟨w.heap.size, 6, none⟩ = some (.int .u8 (eightB x 6)) := hR8.cell 6
      have r7 : (set8 wr w.heap.size (fun j => .int .u8 (eightB x j))).cell? ⟨w.heap.size, 7, none⟩ = some (.int .u8 (eightB x 7)) := hR8.cell 7
      obtain ⟨⟨q0, p0⟩, ⟨q1, p1⟩, ⟨q2, p2⟩, ⟨q3, p3⟩, ⟨q4, p4⟩, ⟨q5, p5⟩, ⟨q6, p6⟩, ⟨q7, p7⟩⟩ := set8_facts hBr (fun j => .int .u8 (eightB x j))
      have HT8 := Lib.hid hT8
      clear hR8 hT8
      simp only [set8] at r0 r1 r2 r3 r4 r5 r6 r7
      clear hB B0 HV0 HV7
      go_wp2_with fail
      refine bodyPost_ret (v := .agg (eightA x 8)) ?_ rfl ⟨rfl, w1, hR, HT8.out⟩
      simp only [eightA]
      simp [eb, results, Try.results22, go_sem, r0, r1, r2, r3, r4, r5, r6, r7]
theorem eight_nil (w : World) : Calls Try.prog 22 #[.pointer none] w fun e w' => e = .returned (.agg (eightA 0 8)) ∧ Turn [] w w' := by
  refine (eight_of (.pointer none) 0 (by omega) (by omega) w (fun w' => w' = w.alloc (.cells z8 51)) ?_).mono ?_
  · refine (dnext_nil _).mono ?_
    rintro e w1 ⟨rfl, rfl⟩
    exact ⟨rfl, rfl, Blk.new _ _ _⟩
  · rintro e w1 ⟨rfl, wm, rfl, hT⟩
    exact ⟨rfl, ((Turn.refl [] w).alloc _).andThen hT (by simp)⟩
theorem eight_c (d : Nat) (s : Int) (w : World) (hd : Blk w d 56 #[.int .u64 s]) : Calls Try.prog 22 #[.pointer (some ⟨d, 0, none⟩)] w fun e w' => e = .returned (.agg (eightA (dval (dstep s)) 8)) ∧ Blk w' d 56 #[.int .u64 (dstep s)] ∧ Turn [d] w w' := by
  have hl := hd.lt
  have hr := dval_range (dstep s)
  refine (eight_of (.pointer (some ⟨d, 0, none⟩)) (dval (dstep s)) hr.1 hr.2 w (fun w' => Blk w' d 56 #[.int .u64 (dstep s)] ∧ Turn [d] (w.alloc (.cells z8 51)) w') ?_).mono ?_
  · refine (dnext_c d s _ (hd.alloc _)).mono ?_
    rintro e w1 ⟨rfl, h1, h2⟩
    exact ⟨rfl, ⟨h1, h2⟩, h2.blk (Blk.new _ _ _) (by simp; omega)⟩
  · rintro e w1 ⟨rfl, wm, ⟨h1, h2⟩, hT⟩
    exact ⟨rfl, hT.blk h1 (by simp; omega), (((Turn.refl [d] w).alloc _).trans h2).andThen hT (by simp)⟩
theorem rnext_nil (A : Option Addr) (n c : Nat) (w : World) : Calls Try.prog 9 #[.pointer none, .pointer none, .slice A n c] w fun e w' => e = .returned (.tuple #[.int .i64 0, .bool false]) ∧ Turn [] w w' := by
  go_enter Try.func9, Try.ntmps9
  go_wp2_with fail
  go_ret2
  exact ⟨by simp, by first | exact (Turn.refl _ _).alloc _ | exact Turn.refl _ _⟩
theorem left_nil (w : World) : Calls Try.prog 14 #[.pointer none] w fun e w' => e = .returned (.slice none 0 0) ∧ w = w' := by
  go_enter Try.func14, Try.ntmps14
  go_wp2_with fail
  go_ret
  exact ⟨by simp, rfl⟩
theorem rounds_nil (w : World) : Calls Try.prog 15 #[.pointer none] w fun e w' => e = .returned (.int .i64 0) ∧ w = w' := by
  go_enter Try.func15, Try.ntmps15
  go_wp2_with fail
  go_ret
  exact ⟨by simp, rfl⟩
end Go.Proofs.Ytibepkipbmfonaa
