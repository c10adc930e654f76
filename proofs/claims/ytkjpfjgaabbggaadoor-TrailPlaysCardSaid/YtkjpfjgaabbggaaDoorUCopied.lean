/- muntinref21.copied: the contract. -/
import Derived.Test.YtkjpfjgaabbggaaDoorTAppend
import Derived.Test.YtkjpfjgaabbggaaDoorTCopied
import Derived.Deep.LoopGhost
import Derived.Deep.CutRange
import Derived.Outline
set_option linter.unusedVariables false
set_option linter.unusedSimpArgs false
namespace Go.Proofs.YtkjpfjgaabbggaaDoor
open Go.RowKit

theorem own_nil_block {w : World} {base n : Nat} {e : TypeId} {s : Nat} {v : Value} {xs : List Value} (h : w.ownsRow base e s v n xs) (h0 : 0 < n) : v ≠ .slice none 0 0 := by
  rcases h.2 with ⟨_, e2⟩ | ⟨_, _, _, e1, _⟩
  · omega
  · intro e; rw [e] at e1; cases e1
theorem cellU {w : World} {g : Nat} {cur : Array Value} {t : TypeId} {fr : Nat × Nat} (h : w.heap[g]? = some (.cells cur t fr)) (k : Nat) : w.cell? ⟨g, k, none⟩ = cur[k]? := by
  simp only [World.cell?, h, Option.isSome_none, Bool.false_eq_true, ↓reduceIte]
theorem ent_news (W : World) (e : Ent) (D : Value) : ∀ j u, (ecells [e] [D])[j]? = some u → (W.alloc (.cells #[.int .i64 e.i, .int .i64 e.t, .int .i64 e.k, D] 44)).cell? ((⟨W.heap.size, 0, none⟩ : Addr).add j) = some u := by
  intro j u hj
  have hb := heap_alloc_new W (.cells #[.int .i64 e.i, .int .i64 e.t, .int .i64 e.k, D] 44)
  rw [Addr.add_lit, Nat.zero_add, cellU hb]
  simpa [ecells] using hj
theorem OE.snoc {w w9 : World} {base : Nat} {v v9 : Value} {es : List Ent} {Ds : List Value} {E : Ent} {D : Value} {n : Nat} (h : OE w base v es Ds) (hn : es.length = n) (own9 : w9.ownsRow base 44 4 v9 (n + 1) (ecells (es ++ [E]) (Ds ++ [D]))) (g9 : w.grownBy w9 v.ownBlock) (ho : OD w base D E.d) : OE w9 base v9 (es ++ [E]) (Ds ++ [D]) := by
  have hk : ∀ {D' : Value} {d' : List UInt8}, OD w base D' d' → OD w9 base D' d' := fun o => ⟨own_step o.1 fun k hk => g9.block k (o.1.lt k hk).2 (fun e => row_types o.1 h.2.1 (by decide) k hk e.symm), o.2⟩
  refine ⟨by simp [h.1], by rw [List.length_append, hn]; exact own9, fun i h1 h2 => ?_⟩
  by_cases hi : i < es.length
  · have hi2 : i < Ds.length := by rw [h.1]; exact hi
    rw [List.getElem_append_left hi2, List.getElem_append_left hi]
    exact hk (h.2.2 i hi hi2)
  · have hi2 : ¬ i < Ds.length := by rw [h.1]; exact hi
    rw [List.getElem_append_right (by omega), List.getElem_append_right (by omega)]
    simp only [List.length_append, List.length_cons, List.length_nil] at h1
    simp only [List.getElem_singleton]
    exact hk ho

set_option maxRecDepth 100000 in
set_option maxHeartbeats 4000000 in
theorem rcopied_any (A : Option Addr) (len c : Nat) (es : List Ent) (Ds : List Value) (w : World) (h : RE w A es Ds) (hl : es.length = len) (hn : len ≤ 4200000000000) :
    Calls Tryd.prog 41 #[.slice A len c] w fun e w' => ∃ v Ds', e = .returned v ∧ OE w' w.heap.size v es Ds' ∧ Below w.heap.size w w' := by
  have HR := Lib.hid h
  have HL := Lib.hid hl
  clear h hl
  go_enter Tryd.func41, Tryd.ntmps41
  go_wp2_with fail
  go_loopg [3, 4] len (fun m vi ki wr => ∃ (k : Nat) (VA : Option Addr) (vc : Nat) (Ds' : List Value), m = len - k ∧ k ≤ len ∧ vi = .slice VA k vc ∧ ki = .int .i64 k ∧ Hid (OE wr w.heap.size (.slice VA k vc) (es.take k) Ds' ∧ Below w.heap.size w wr))
  case atStart => exact ⟨0, none, 0, [], by omega, by omega, rfl, rfl, Lib.hid ⟨OE.nil _ _, Below.refl _ _⟩⟩
  case round =>
    obtain ⟨k, VA, vc, Ds', hm, hk, rfl, rfl, HO⟩ := hrel
    by_cases hkl : k < len
    · have hkl1 : (k : Int) < (len : Int) := by omega
      have hke : k < es.length := by rw [HL.out]; exact hkl
      have htk := Lib.hid (show (es.take k).length = k by rw [List.length_take]; omega)
      obtain ⟨g, o, rfl, hg, -⟩ := HR.out.addr (by omega)
      obtain ⟨c0, c1, c2, c3, hrd⟩ := (HR.out.below HO.out.2).at k hke
      have hsucc := Lib.hid (show es.take (k + 1) = es.take k ++ [es[k]'hke] from List.take_succ_eq_append_getElem hke)
      obtain ⟨D, hD⟩ : ∃ D, D = Ds[k]'(by rw [HR.out.1]; omega) := ⟨_, rfl⟩
      rw [← hD] at c3 hrd
      obtain ⟨E, hE⟩ : ∃ E, E = es[k] := ⟨_, rfl⟩
      rw [← hE] at c0 c1 c2 hrd
      have HE := Lib.hid hE
      clear hD hE
      obtain ⟨ei, et, ek, d⟩ := E
      simp only at c0 c1 c2 hrd
      obtain ⟨B, cb, rfl, hrb, hdc, hdl, hBn⟩ := hrd
      go_upto_region 6 with (fail)
      obtain ⟨W4, hW4⟩ : ∃ W4, W4 = wr.alloc (.cells #[.int .i64 ei, .int .i64 et, .int .i64 ek, .slice B d.length cb] 44) := ⟨_, rfl⟩
      rw [← hW4]
      have bA : Below wr.heap.size wr W4 := by rw [hW4]; exact below_alloc _ _
      have hbx : W4.heap[wr.heap.size]? = some (.cells #[.int .i64 ei, .int .i64 et, .int .i64 ek, .slice B d.length cb] 44 (0, 0)) := by rw [hW4]; exact heap_alloc_new wr _
      have HZ4 := Lib.hid (show W4.heap.size = wr.heap.size + 1 by rw [hW4]; simp)
      clear hW4
      have bB := below_alloc W4 (.cells #[] 5)
      obtain ⟨v6, w6, run6, own6, g6⟩ := run_append_bytes (w := W4.alloc (.cells #[] 5)) W4.heap.size (.slice (some ⟨W4.heap.size, 0, none⟩) 0 0) 0 [] d B d.length cb (World.ownsRow_made W4 #[] 0 (Nat.le_refl _) (by unfold maxLen; omega) rfl) ((hrb.below bA).below bB) rfl hBn (by omega) bB.size
      obtain ⟨B2, cb2, rfl, -, -⟩ := own_shape own6
      rw [Nat.zero_add] at run6 own6
      rw [List.nil_append] at own6
      have b46 : Below W4.heap.size W4 w6 := bB.grown g6 bB.size (fun j hj => by
        have hj : W4.heap.size = j := Option.some.inj hj
        subst hj
        exact Nat.le_refl _)
      have hbx6 := (b46.block wr.heap.size (by have := HZ4.out; omega)).trans hbx
      have k0 : w6.cell? ⟨wr.heap.size, 0, none⟩ = some (.int .i64 ei) := by simp [World.cell?, hbx6]
      have k1 : w6.cell? ⟨wr.heap.size, 1, none⟩ = some (.int .i64 et) := by simp [World.cell?, hbx6]
      have k2 : w6.cell? ⟨wr.heap.size, 2, none⟩ = some (.int .i64 ek) := by simp [World.cell?, hbx6]
      have k3 : w6.cell? ⟨wr.heap.size, 3, none⟩ = some (.slice B d.length cb) := by simp [World.cell?, hbx6]
      have f3 : w6.frozen? ⟨wr.heap.size, 3, none⟩ = false := by simp [World.frozen?, hbx6]
      have kW : W4.cell? ⟨wr.heap.size, 3, none⟩ = some (.slice B d.length cb) := by simp [World.cell?, hbx]
      have kWB := below_cell bB kW
      have O6 : OD w6 W4.heap.size (.slice B2 d.length cb2) d := ⟨own6, hdl⟩
      have bw6 : Below wr.heap.size wr w6 := below_then bA bA.size b46
      have bw7 : Below wr.heap.size wr (w6.setCell ⟨wr.heap.size, 3, none⟩ (.slice B2 d.length cb2)) := bw6.setCell (Nat.le_refl _) _
      have O7 : OD (w6.setCell ⟨wr.heap.size, 3, none⟩ (.slice B2 d.length cb2)) W4.heap.size (.slice B2 d.length cb2) d := ⟨own_step O6.1 fun j hj => heap_setCell_other _ _ _ _ fun e => by
        have := (O6.1.lt j hj).1
        have := HZ4.out
        have e : j = wr.heap.size := e
        omega, O6.2⟩
      have bC := below_alloc (w6.setCell ⟨wr.heap.size, 3, none⟩ (.slice B2 d.length cb2)) (.cells #[.int .i64 ei, .int .i64 et, .int .i64 ek, .slice B2 d.length cb2] 44)
      have hbl := HO.out.2.size
      have hE8 := (HO.out.1.below bw7).below bC
      have hO8 : OD _ w.heap.size (.slice B2 d.length cb2) d := ⟨own_lower (own_below O7.1 bC) (by have := HZ4.out; omega), O7.2⟩
      have hsz8 := bC.size
      have hsz7 := bw7.size
      have hDl : Ds'.length = (es.take k).length := HO.out.1.1
      have hnil : VA = none → k = 0 := fun e => by
        rcases Nat.eq_zero_or_pos k with h | h
        · exact h
        · have o1 := HO.out.1.2.1
          rw [htk.out] at o1
          rcases o1.2 with ⟨_, e2⟩ | ⟨_, _, _, e1, _⟩
          · exact e2
          · rw [e] at e1; cases e1
      obtain ⟨v9, w9, run9, own9, g9, -⟩ := run_append_ent (w := (w6.setCell ⟨wr.heap.size, 3, none⟩ (.slice B2 d.length cb2)).alloc (.cells #[.int .i64 ei, .int .i64 et, .int .i64 ek, .slice B2 d.length cb2] 44)) w.heap.size (.slice VA k vc) k (es.take k) Ds' hDl htk.out (by have := hE8.2.1; rwa [htk.out] at this) ⟨(w6.setCell ⟨wr.heap.size, 3, none⟩ (.slice B2 d.length cb2)).heap.size, 0, none⟩ 1 1 [⟨ei, et, ek, d⟩] [.slice B2 d.length cb2] rfl rfl (ent_news _ ⟨ei, et, ek, d⟩ _) (ecells_one rfl (fun D hD => by rw [List.mem_singleton.1 hD]; rfl)) (by omega) (fun _ => by omega) (by omega)
      have HN := Lib.hid (show OE w9 w.heap.size v9 (es.take (k + 1)) (Ds' ++ [.slice B2 d.length cb2]) ∧ Below w.heap.size w w9 from by
        rw [hsucc.out, ← HE.out]
        exact ⟨hE8.snoc htk.out own9 g9 hO8, ((below_then HO.out.2 hbl (below_then bw7 bw7.size bC)).grown g9 (by omega) fun j hj => (HO.out.1.2.1.lt j hj).1)⟩)
      rw [World.size_setCell] at run9
      have h9 := own_shape own9
      obtain ⟨V9, c9, rfl, -⟩ := h9
      clear own9 g9 hE8 hO8 O7 O6 bC bw7 bw6 b46 bB bA hbx hbx6 own6 g6 hrb hDl hnil
      go_wp2_with (first
        | (at_builtin; refine wpList_append_run rfl (.tmp 16) (.tmp 18) 42 rfl rfl _ _ rfl rfl _ _ run6 ?_)
        | (at_builtin; refine wpList_append_run rfl (.tmp 21) (.tmp 23) 22 rfl rfl _ _ rfl rfl _ _ run9 ?_))
      go_roundg (len - (k + 1))
      case measure => omega
      case rel => exact ⟨k + 1, V9, c9, _, rfl, by omega, rfl, by go_num, HN⟩
    · obtain rfl : k = len := by omega
      have hkl1 : ¬ (k : Int) < (k : Int) := by omega
      have htk := Lib.hid (show es.take k = es from List.take_of_length_le (by rw [HL.out]; exact Nat.le_refl _))
      go_wp2_with fail
      go_ret
      have h := HO.out
      rw [htk.out] at h
      exact ⟨_, rfl, ⟨Ds', h.1⟩, h.2⟩
end Go.Proofs.YtkjpfjgaabbggaaDoor
