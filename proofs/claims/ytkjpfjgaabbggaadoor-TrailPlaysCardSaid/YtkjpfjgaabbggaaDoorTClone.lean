/- slices.Clone of bytes and of entries: the contracts. -/
import Derived.Test.YtkjpfjgaabbggaaDoorTEnt
import Derived.Test.YtkjpfjgaabbggaaDoorLent
import Derived.Test.YtkjpfjgaabbggaaDoorTAppend
import Derived.WalkSpells
import Derived.ArgAppend
import Derived.Outline
set_option linter.unusedVariables false
set_option linter.unusedSimpArgs false
namespace Go.Proofs.YtkjpfjgaabbggaaDoor
open Go.RowKit


set_option maxRecDepth 100000 in
set_option maxHeartbeats 1000000 in
theorem cloneb_any (D : Value) (d : List UInt8) (w : World) (h : RD w D d) :
    Calls Tryd.prog 37 #[D] w fun e w' => ∃ D', e = .returned D' ∧ OD w' w.heap.size D' d ∧ Below w.heap.size w w' := by
  obtain ⟨B, c, rfl, hr, hc, hl, hB⟩ := h
  cases B with
  | none =>
    obtain rfl := hB rfl
    have h0 : d.length = 0 := by omega
    obtain rfl : d = [] := List.eq_nil_of_length_eq_zero h0
    have hn := fun w => Lib.run_eql_slice_nil (P := Tryd.prog) w 42 5 none 0 0 0 0 Tryd.underlying42
    go_enter Tryd.func37, Tryd.ntmps37
    go_wp2_with fail
    go_ret
    exact ⟨_, rfl, ⟨World.ownsRow_nil _ _ _ _, by simp⟩, Below.refl _ _⟩
  | some a =>
    have hn := fun w => Lib.run_eql_slice_nil (P := Tryd.prog) w 42 5 (some a) d.length c 0 0 Tryd.underlying42
    go_enter Tryd.func37, Tryd.ntmps37
    go_wp2_with (at_builtin; refine wpList_append_bytes (w := w.alloc (.cells #[] 5)) rfl (.tmp 5) (.tmp 6) rfl w.heap.size (.slice (some ⟨w.heap.size, 0, none⟩) 0 0) [] d 0 d.length c (some a) rfl rfl (World.ownsRow_made w #[] 0 (Nat.le_refl _) (by unfold maxLen; omega) rfl) (hr.alloc _) rfl (fun h => by cases h) rfl (by omega) (by simp) ?_; intro v' w' own hg)
    go_ret
    exact ⟨_, rfl, ⟨by simpa using own, hl⟩, (below_alloc _ _).grown hg (by simp) (fun k hk => by simp [Value.ownBlock] at hk; omega)⟩

/-- the cells of entries that are appended to nothing -/
theorem RE.news {w : World} {a : Addr} {es : List Ent} {Ds : List Value} (h : RE w (some a) es Ds) : ∀ j u, (ecells es Ds)[j]? = some u → w.cell? (a.add j) = some u := by
  intro j u hj
  obtain ⟨a', ha, hc⟩ := h.2.1 j u hj
  cases ha
  exact hc

set_option maxRecDepth 100000 in
set_option maxHeartbeats 1000000 in
theorem clonee_any (A : Option Addr) (len c : Nat) (es : List Ent) (Ds : List Value) (w : World) (h : RE w A es Ds) (hl : es.length = len) (hA : A = none → len = 0) (hn : len ≤ 4200000000000) :
    Calls Tryd.prog 36 #[.slice A len c] w fun e w' => ∃ v, e = .returned v ∧ w'.ownsRow w.heap.size 44 4 v len (ecells es Ds) ∧ Below w.heap.size w w' ∧ (v = .slice none 0 0 ↔ A = none) := by
  cases A with
  | none =>
    obtain rfl := hA rfl
    obtain rfl : es = [] := List.eq_nil_of_length_eq_zero hl
    have hn := fun w => Lib.run_eql_slice_nil (P := Tryd.prog) w 22 44 none 0 c 0 0 Tryd.underlying22
    go_enter Tryd.func36, Tryd.ntmps36
    go_wp2_with fail
    go_ret
    exact ⟨_, rfl, by simpa [ecells] using World.ownsRow_nil _ _ _ _, Below.refl _ _, by simp⟩
  | some a =>
    have hn2 := fun w => Lib.run_eql_slice_nil (P := Tryd.prog) w 22 44 (some a) len c 0 0 Tryd.underlying22
    obtain ⟨i0, hi, hz0, hz1, hz2⟩ := info_parts info_entry
    have HI := Lib.hid hi
    have hb : Below w.heap.size w (w.alloc (.cells #[] 44)) := below_alloc _ _
    have hlen := Lib.hid (ecells_length h.1)
    have HL := Lib.hid hl
    clear hi hl
    go_enter Tryd.func36, Tryd.ntmps36
    obtain ⟨v', w', hrun, own, hg, -, hv⟩ := run_append_ent (w := w.alloc (.cells #[] 44)) w.heap.size (.slice (some ⟨w.heap.size, 0, none⟩) 0 0) 0 [] [] rfl rfl (World.ownsRow_made w #[] 0 (Nat.le_refl _) (by unfold maxLen; omega) rfl) a len c es Ds h.1 HL.out (h.below hb).news (ecells_one h.1 h.ones) (by omega) (fun h => by cases h) (by simp)
    go_wp2_with (at_builtin; refine wpList_append_run rfl (.tmp 5) (.tmp 6) 22 rfl rfl _ _ rfl rfl _ _ hrun ?_)
    go_ret
    exact ⟨_, rfl, by simpa using own, hb.grown hg (by simp) (fun k hk => by simp [Value.ownBlock] at hk; omega), by simpa using hv⟩
end Go.Proofs.YtkjpfjgaabbggaaDoor
