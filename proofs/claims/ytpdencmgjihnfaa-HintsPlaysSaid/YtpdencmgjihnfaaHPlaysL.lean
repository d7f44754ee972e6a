/- Both hints behind a Forget. -/
import Derived.Test.YtpdencmgjihnfaaHPlaysK
namespace Go.Proofs.Ytpdencmgjihnfaa
open Go.RowKit Go.ChangeMaps

theorem arm3_rel {w w5 w5d w6 : World} {h q bm base mb : Nat} {own : C4} {times : Int} {N N' : Nat} {m m' : QM} {A : Option Addr} {n cp : Nat} {wl : List C4} {Ar : Option Addr} {nr cr : Nat} {L : Option Addr} {nl cl : Nat} {T T' : TL} {w4 : World}
    (R : HPRel w h q bm base mb own times N m A n cp wl Ar nr cr L nl cl T w4) (T45 : Turn ([h, bm] ++ blks A) w4 w5)
    (H5 : HIs w5 h q bm own times m' base A n cp wl) (RF : RefIs w5 mb own times Ar nr cr wl L nl cl T) (P : PlOk m' T') (TW : Turn [] w w5)
    (T60 : Turn [] w5 w5d) (T56 : Turn [] w5 w6) {L2 : Option Addr} {nl2 cl2 : Nat} (o : w6.ownsRow w5d.heap.size 41 2 (.slice L2 nl2 cl2) nl2 (tcs T')) (hle : T'.length ≤ nl) (hN : N ≤ N') :
    HPRel w h q bm base mb own times N' m' A n cp wl Ar nr cr L2 nl2 cl2 T' (w6.setCell ⟨mb, 6, none⟩ (.slice L2 nl2 cl2)) := by
  have mbh := R.mbh
  have mbA := R.mbA
  have hmb := RF.blk.lt
  have z60 := T60.size
  have z56 := T56.size
  have z45 := T45.size
  have lL := own_ltA o
  have TS : Turn [mb] w5 (w6.setCell ⟨mb, 6, none⟩ (.slice L2 nl2 cl2)) := (T56.mono (by simp)).setCell (.inl (by simp)) _
  have T6S : Turn [mb] w6 (w6.setCell ⟨mb, 6, none⟩ (.slice L2 nl2 cl2)) := (Turn.refl [mb] w6).setCell (.inl (by simp)) _
  have hmL : mb ∉ blks L2 := fun hm => by have := (lL mb hm).2; omega
  have hlen : T'.length = nl2 := by have := o.1; rw [tcs_len] at this; omega
  have hA5 : ∀ i ∈ blks A, i < w5.heap.size := fun i hi => (own_ltA H5.row i hi).1
  have hq5 := H5.qs.lt
  have hh5 := H5.blk.lt
  refine ⟨?_, ⟨?_, ?_, RF.wn, RF.wc, ?_, hlen, RF.offA, hmL⟩, P, R.nd, by have := R.nle; omega, mbA, mbh, R.offR, fun i hi => ?_, ⟨fun i hi => ?_, fun i hi => ?_⟩, R.new, ?_⟩
  · exact H5.turn TS (by simp; exact fun h => mbh.1 h.symm) (by simp; exact fun h => mbh.2.1 h.symm) (by simp; exact fun h => mbh.2.2 h.symm) (fun i hi hm => by simp at hm; subst hm; exact mbA hi)
  · exact (T56.blk RF.blk (by simp)).set_ 6 _
  · exact RF.ws.turn TS (off_blks (fun i hi hm => by simp at hm; subst hm; exact RF.offA hi))
  · exact (Sl.of_own o).turn T6S (off_blks (fun i hi hm => by simp at hm; subst hm; exact hmL hi))
  · have := (lL i hi).2
    exact ⟨by omega, by omega, by omega, fun hm => by have := hA5 i hm; omega⟩
  · have := R.ltR.1 i hi; have := T6S.size; omega
  · have := (lL i hi).1; have := T6S.size; omega
  · exact TW.andThen TS (fun i hi => by simp at hi; subst hi; exact .inr R.new.2.2.2.2)
end Go.Proofs.Ytpdencmgjihnfaa
