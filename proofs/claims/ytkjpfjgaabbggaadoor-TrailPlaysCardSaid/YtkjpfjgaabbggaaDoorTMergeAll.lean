/- trail.Merge: the contract, whatever it is asked. -/
import Derived.Test.YtkjpfjgaabbggaaDoorTMergeHi
import Derived.Test.YtkjpfjgaabbggaaDoorTMergeLo
import Derived.Test.YtkjpfjgaabbggaaDoorTMerged
set_option linter.unusedVariables false
set_option linter.unusedSimpArgs false
namespace Go.Proofs.YtkjpfjgaabbggaaDoor
open Go.RowKit

theorem merge_wideW (base p : Nat) (i t : Int) (v : Value) (es : List Ent) (Ds : List Value) (A : Option Addr) (len ca : Nat) (l : List Ent) (Dl : List Value) (prev term : Int) (w : World) (h : TO w base p i t v es Ds)
    (hrl : RE w A l Dl) (hl : l.length = len) (hlc : len ≤ ca) (hA : A = none → len = 0) (h0 : 0 ≤ i) (h1 : i ≤ 10000000000000) (h2 : es.length ≤ 10000000000000) (hmem : len * 48 ≤ 140737488355328) (hbase : base ≤ w.heap.size) :
    Calls Tryd.prog 12 #[.pointer (some ⟨p, 0, none⟩), .int .i64 prev, .int .i64 term, .slice A len ca] w (MergePostW w base p i t v Ds (mergeT i t es prev term l)) := by
  cases hok : okNew prev term l with
  | false =>
    have : mergeT i t es prev term l = (1, 0, es, []) := by unfold mergeT; rw [if_pos hok]
    rw [this]
    exact merge_bad base p i t v es Ds A len ca l Dl prev term w h hrl hl (by omega) h0 h1 h2 hok
  | true =>
    by_cases hf : i + es.length < prev ∨ (prev ≤ i + es.length ∧ prev + len < i)
    · have : mergeT i t es prev term l = (if i + es.length < prev then (92, 0, es, []) else (0, prev + len, es, [])) := by
        unfold mergeT
        rw [hok, if_neg (by decide)]
        split
        · rfl
        · rw [if_pos (by omega), hl]
      rw [this]
      exact merge_far base p i t v es Ds A len ca l Dl prev term w h hrl hl (by omega) h0 h1 h2 hok hf
    · by_cases hp : i ≤ prev
      · exact merge_hiW base p i t v es Ds A len ca l Dl prev term w h hrl hl hlc hA h0 h1 h2 hmem hbase hok hp (by omega)
      · exact merge_loW base p i t v es Ds A len ca l Dl prev term w h hrl hl hlc hA h0 h1 h2 hmem hbase hok (by omega) (by omega)
theorem merge_wide (base p : Nat) (i t : Int) (v : Value) (es : List Ent) (Ds : List Value) (A : Option Addr) (len ca : Nat) (l : List Ent) (Dl : List Value) (prev term : Int) (w : World) (h : TO w base p i t v es Ds)
    (hrl : RE w A l Dl) (hl : l.length = len) (hlc : len ≤ ca) (hA : A = none → len = 0) (h0 : 0 ≤ i) (h1 : i ≤ 10000000000000) (h2 : es.length ≤ 10000000000000) (hmem : len * 48 ≤ 140737488355328) (hbase : base ≤ w.heap.size) :
    Calls Tryd.prog 12 #[.pointer (some ⟨p, 0, none⟩), .int .i64 prev, .int .i64 term, .slice A len ca] w (MergePost w base p i t (mergeT i t es prev term l)) :=
  (merge_wideW base p i t v es Ds A len ca l Dl prev term w h hrl hl hlc hA h0 h1 h2 hmem hbase).mono fun _ _ h => h.weak
theorem merge_any (base p : Nat) (i t : Int) (v : Value) (es : List Ent) (Ds : List Value) (A : Option Addr) (len ca : Nat) (l : List Ent) (Dl : List Value) (prev term : Int) (w : World) (h : TO w base p i t v es Ds)
    (hrl : RE w A l Dl) (hl : l.length = len) (hlc : len ≤ ca) (hca : ca ≤ 10000000000000) (hA : A = none → len = 0) (h0 : 0 ≤ i) (h1 : i ≤ 10000000000000) (h2 : es.length ≤ 10000000000000) (hmem : len * 48 ≤ 140737488355328) (hbase : base ≤ w.heap.size) :
    Calls Tryd.prog 12 #[.pointer (some ⟨p, 0, none⟩), .int .i64 prev, .int .i64 term, .slice A len ca] w (MergePost w base p i t (mergeT i t es prev term l)) :=
  merge_wide base p i t v es Ds A len ca l Dl prev term w h hrl hl hlc hA h0 h1 h2 hmem hbase
end Go.Proofs.YtkjpfjgaabbggaaDoor
