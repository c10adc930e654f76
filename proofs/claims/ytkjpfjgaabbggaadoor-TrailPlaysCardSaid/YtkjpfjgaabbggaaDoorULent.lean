/- muntinlaw19.Lent: entries lent. -/
import Derived.Test.YtkjpfjgaabbggaaDoorUCopied
import Derived.Test.YtkjpfjgaabbggaaDoorUOwnedLit
import Derived.Test.YtkjpfjgaabbggaaDoorTSame
import Derived.Test.YtkjpfjgaabbggaaDoorHeldZ
set_option linter.unusedVariables false
set_option linter.unusedSimpArgs false
namespace Go.Proofs.YtkjpfjgaabbggaaDoor
open Go.RowKit

theorem lent_at (A : Option Addr) (c : Nat) (bs : List UInt8) (w : World) (hn : bs.length ≤ 140737488351232) (hr : RB w A bs) :
    Calls Tryd.prog 39 #[.slice A bs.length c] w fun e w' => ∃ g, e = .returned (.slice (some ⟨g, 0, none⟩) bs.length (bs.length + 1)) ∧ w'.cell? ⟨g, bs.length, none⟩ = some (.int .u8 77) ∧
      OD w' w.heap.size (.slice (some ⟨g, 0, none⟩) bs.length (bs.length + 1)) bs ∧ Below w.heap.size w w' := by
  refine (lent_any A c bs w hn hr).mono ?_
  rintro e w' ⟨rfl, rfl⟩
  exact ⟨_, rfl, cell_new _ _ _ _ _ (by simp), ⟨⟨by simp, .inr ⟨w.heap.size, bs.length + 1, mem (bv bs ++ [Value.int .u8 77]), rfl, Nat.le_refl _, heap_alloc_new _ _, by omega, by unfold maxLen; omega, by simp, by rw [mem_toList, List.take_append_of_le_length (by simp), List.take_of_length_le (by simp)]⟩⟩, hn⟩, below_alloc _ _⟩
/-- data that were lent -/
def LD (w : World) (base : Nat) (D : Value) (d : List UInt8) : Prop := ∃ g, D = .slice (some ⟨g, 0, none⟩) d.length (d.length + 1) ∧ OD w base D d ∧ w.cell? ⟨g, d.length, none⟩ = some (.int .u8 77)
theorem LD.keep {w w' : World} {base : Nat} {D : Value} {d : List UInt8} (h : LD w base D d) (hk : ∀ k, D.ownBlock = some k → w'.heap[k]? = w.heap[k]?) : LD w' base D d := by
  obtain ⟨g, rfl, h1, h2⟩ := h
  exact ⟨g, rfl, ⟨own_step h1.1 hk, h1.2⟩, (World.cell?_of_block (w := w) (hk g rfl)).trans h2⟩
theorem LD.lower {w : World} {base b' : Nat} {D : Value} {d : List UInt8} (h : LD w base D d) (hb : b' ≤ base) : LD w b' D d := by
  obtain ⟨g, h0, h1, h2⟩ := h
  exact ⟨g, h0, ⟨own_lower h1.1 hb, h1.2⟩, h2⟩
theorem LD.lt {w : World} {base : Nat} {D : Value} {d : List UInt8} (h : LD w base D d) : ∀ k, D.ownBlock = some k → base ≤ k ∧ k < w.heap.size := by
  obtain ⟨g, h0, h1, h2⟩ := h
  exact h1.1.lt
/-- entries that were lent -/
structure LE (w : World) (base : Nat) (v : Value) (es : List Ent) (Ds : List Value) : Prop where
  oe : OE w base v es Ds
  ld : ∀ k (h : k < es.length) (h' : k < Ds.length), LD w base Ds[k] es[k].d
  ap : Ds.Pairwise fun a c => ∀ k, a.ownBlock = some k → c.ownBlock ≠ some k
theorem LE.nil (w : World) (base : Nat) : LE w base (.slice none 0 0) [] [] := ⟨OE.nil _ _, by simp, List.Pairwise.nil⟩
theorem LE.keep {w w' : World} {base : Nat} {v : Value} {es : List Ent} {Ds : List Value} (h : LE w base v es Ds) (hk : ∀ k, base ≤ k → k < w.heap.size → w'.heap[k]? = w.heap[k]?) : LE w' base v es Ds :=
  ⟨h.oe.step (fun k e => hk k (h.oe.2.1.lt k e).1 (h.oe.2.1.lt k e).2) (fun D hD k e => hk k (h.oe.dlt D hD k e).1 (h.oe.dlt D hD k e).2), fun k h1 h2 => (h.ld k h1 h2).keep fun j hj => hk j ((h.ld k h1 h2).lt j hj).1 ((h.ld k h1 h2).lt j hj).2, h.ap⟩
theorem LE.below {w w' : World} {base : Nat} {v : Value} {es : List Ent} {Ds : List Value} (h : LE w base v es Ds) (b : Below w.heap.size w w') : LE w' base v es Ds := h.keep fun k _ hk => b.block k hk
theorem LE.snoc {w w9 : World} {base : Nat} {v v9 : Value} {es : List Ent} {Ds : List Value} {F : Ent} {D : Value} {n : Nat} (h : LE w base v es Ds) (hn : es.length = n) (own9 : w9.ownsRow base 44 4 v9 (n + 1) (ecells (es ++ [F]) (Ds ++ [D]))) (g9 : w.grownBy w9 v.ownBlock) (ho : LD w base D F.d) (hap : ∀ D' ∈ Ds, ∀ k, D'.ownBlock = some k → D.ownBlock ≠ some k) : LE w9 base v9 (es ++ [F]) (Ds ++ [D]) := by
  have hk : ∀ {D' : Value} {d' : List UInt8}, LD w base D' d' → LD w9 base D' d' := fun o => o.keep fun k hk => g9.block k (o.lt k hk).2 (fun e => by
    obtain ⟨g, rfl, o1, _⟩ := o
    exact row_types o1.1 h.oe.2.1 (by decide) k hk e.symm)
  have hod : OD w base D F.d := by obtain ⟨g, rfl, h1, _⟩ := ho; exact h1
  refine ⟨h.oe.snoc hn own9 g9 hod, fun i h1 h2 => ?_, ?_⟩
  · by_cases hi : i < es.length
    · have hi2 : i < Ds.length := by rw [h.oe.1]; exact hi
      rw [List.getElem_append_left hi2, List.getElem_append_left hi]
      exact hk (h.ld i hi hi2)
    · have hi2 : ¬ i < Ds.length := by rw [h.oe.1]; exact hi
      rw [List.getElem_append_right (by omega), List.getElem_append_right (by omega)]
      simp only [List.getElem_singleton]
      exact hk ho
  · rw [List.pairwise_append]
    refine ⟨h.ap, by simp, fun a ha c hc => ?_⟩
    rw [List.mem_singleton.1 hc]
    exact hap a ha

set_option maxRecDepth 100000 in
set_option maxHeartbeats 4000000 in
theorem lents_any (A : Option Addr) (len c : Nat) (es : List Ent) (Ds : List Value) (w : World) (h : RE w A es Ds) (hl : es.length = len) (hn : len * 48 ≤ 140737488351232) :
    Calls Tryd.prog 24 #[.slice A len c] w fun e w' => ∃ v Ds', e = .returned v ∧ LE w' w.heap.size v es Ds' ∧ Below w.heap.size w w' := by
  have HR := Lib.hid h
  have HL := Lib.hid hl
  clear h hl
  go_enter Tryd.func24, Tryd.ntmps24
  go_wp2_with fail
  go_loopg [3, 4] len (fun m vi ki wr => ∃ (k : Nat) (VA : Option Addr) (vc : Nat) (Ds' : List Value), m = len - k ∧ k ≤ len ∧ vi = .slice VA k vc ∧ ki = .int .i64 k ∧ Hid (LE wr w.heap.size (.slice VA k vc) (es.take k) Ds' ∧ Below w.heap.size w wr))
  case atStart => exact ⟨0, none, 0, [], by omega, by omega, rfl, rfl, Lib.hid ⟨LE.nil _ _, Below.refl _ _⟩⟩
  case round =>
    obtain ⟨k, VA, vc, Ds', hm, hk, rfl, rfl, HO⟩ := hrel
    by_cases hkl : k < len
    · have hkl1 : (k : Int) < (len : Int) := by omega
      have hke : k < es.length := by rw [HL.out]; exact hkl
      have htk := Lib.hid (show (es.take k).length = k by rw [List.length_take]; omega)
      obtain ⟨g, o, rfl, hg, -⟩ := HR.out.addr (by omega)
      obtain ⟨c0, c1, c2, c3, hrd⟩ := (HR.out.below HO.out.2).at k hke
      have hsucc := Lib.hid (show es.take (k + 1) = es.take k ++ [es[k]'hke] from List.take_succ_eq_append_getElem hke)
      obtain ⟨D, hD⟩ : ∃ D, D = Ds[k]'(by rw [HR.out.1]; omega) := ⟨_, rfl⟩
      rw [← hD] at c3 hrd
      obtain ⟨E, hE⟩ : ∃ E, E = es[k] := ⟨_, rfl⟩
      rw [← hE] at c0 c1 c2 hrd
      have HE := Lib.hid hE
      clear hD hE
      obtain ⟨ei, et, ek, d⟩ := E
      simp only at c0 c1 c2 hrd
      obtain ⟨B, cb, rfl, hrb, hdc, hdl, hBn⟩ := hrd
      go_upto_region 6 with (fail)
      obtain ⟨W4, hW4⟩ : ∃ W4, W4 = wr.alloc (.cells #[.int .i64 ei, .int .i64 et, .int .i64 ek, .slice B d.length cb] 44) := ⟨_, rfl⟩
      rw [← hW4]
      have bA : Below wr.heap.size wr W4 := by rw [hW4]; exact below_alloc _ _
      have hbx : W4.heap[wr.heap.size]? = some (.cells #[.int .i64 ei, .int .i64 et, .int .i64 ek, .slice B d.length cb] 44 (0, 0)) := by rw [hW4]; exact heap_alloc_new wr _
      have HZ4 := Lib.hid (show W4.heap.size = wr.heap.size + 1 by rw [hW4]; simp)
      clear hW4
      have kW : W4.cell? ⟨wr.heap.size, 3, none⟩ = some (.slice B d.length cb) := by simp [World.cell?, hbx]
      have HLN := Lib.hid (lent_at B cb d W4 hdl (hrb.below bA))
      have HBX := Lib.hid hbx
      have HBA := Lib.hid bA
      clear hbx bA hrb
      go_wp2_with fail
      refine HLN.out.mono ?_
      rintro e w6 ⟨g6, rfl, h77, od6, b46⟩
      have hbx6 := (b46.block wr.heap.size (by have := HZ4.out; omega)).trans HBX.out
      have k0 : w6.cell? ⟨wr.heap.size, 0, none⟩ = some (.int .i64 ei) := by simp [World.cell?, hbx6]
      have k1 : w6.cell? ⟨wr.heap.size, 1, none⟩ = some (.int .i64 et) := by simp [World.cell?, hbx6]
      have k2 : w6.cell? ⟨wr.heap.size, 2, none⟩ = some (.int .i64 ek) := by simp [World.cell?, hbx6]
      have k3 : w6.cell? ⟨wr.heap.size, 3, none⟩ = some (.slice B d.length cb) := by simp [World.cell?, hbx6]
      have f3 : w6.frozen? ⟨wr.heap.size, 3, none⟩ = false := by simp [World.frozen?, hbx6]
      have O6 : LD w6 W4.heap.size (.slice (some ⟨g6, 0, none⟩) d.length (d.length + 1)) d := ⟨g6, rfl, od6, h77⟩
      have bw6 : Below wr.heap.size wr w6 := below_then HBA.out HBA.out.size b46
      have bw7 : Below wr.heap.size wr (w6.setCell ⟨wr.heap.size, 3, none⟩ (.slice (some ⟨g6, 0, none⟩) d.length (d.length + 1))) := bw6.setCell (Nat.le_refl _) _
      have O7 : LD (w6.setCell ⟨wr.heap.size, 3, none⟩ (.slice (some ⟨g6, 0, none⟩) d.length (d.length + 1))) W4.heap.size (.slice (some ⟨g6, 0, none⟩) d.length (d.length + 1)) d := O6.keep fun j hj => heap_setCell_other _ _ _ _ fun e => by
        have := (O6.lt j hj).1
        have := HZ4.out
        have e : j = wr.heap.size := e
        omega
      have bC := below_alloc (w6.setCell ⟨wr.heap.size, 3, none⟩ (.slice (some ⟨g6, 0, none⟩) d.length (d.length + 1))) (.cells #[.int .i64 ei, .int .i64 et, .int .i64 ek, .slice (some ⟨g6, 0, none⟩) d.length (d.length + 1)] 44)
      have hbl := HO.out.2.size
      have hE8 := (HO.out.1.below bw7).below bC
      have hO8 : LD ((w6.setCell ⟨wr.heap.size, 3, none⟩ (.slice (some ⟨g6, 0, none⟩) d.length (d.length + 1))).alloc (.cells #[.int .i64 ei, .int .i64 et, .int .i64 ek, .slice (some ⟨g6, 0, none⟩) d.length (d.length + 1)] 44)) w.heap.size (.slice (some ⟨g6, 0, none⟩) d.length (d.length + 1)) d := (O7.keep fun j hj => bC.block j (O7.lt j hj).2).lower (by have := HZ4.out; omega)
      have hsz8 := bC.size
      have hsz7 := bw7.size
      have hDl : Ds'.length = (es.take k).length := HO.out.1.oe.1
      have hap : ∀ D' ∈ Ds', ∀ j, D'.ownBlock = some j → Value.ownBlock (.slice (some ⟨g6, 0, none⟩) d.length (d.length + 1)) ≠ some j := fun D' hD' j hj e => by
        have h1 := (HO.out.1.oe.dlt D' hD' j hj).2
        have h2 := (O6.lt j e).1
        have := HZ4.out
        omega
      obtain ⟨v9, w9, run9, own9, g9, -⟩ := run_append_ent (w := (w6.setCell ⟨wr.heap.size, 3, none⟩ (.slice (some ⟨g6, 0, none⟩) d.length (d.length + 1))).alloc (.cells #[.int .i64 ei, .int .i64 et, .int .i64 ek, .slice (some ⟨g6, 0, none⟩) d.length (d.length + 1)] 44)) w.heap.size (.slice VA k vc) k (es.take k) Ds' hDl htk.out (by have := hE8.oe.2.1; rwa [htk.out] at this) ⟨(w6.setCell ⟨wr.heap.size, 3, none⟩ (.slice (some ⟨g6, 0, none⟩) d.length (d.length + 1))).heap.size, 0, none⟩ 1 1 [⟨ei, et, ek, d⟩] [.slice (some ⟨g6, 0, none⟩) d.length (d.length + 1)] rfl rfl (ent_news _ ⟨ei, et, ek, d⟩ _) (ecells_one rfl (fun D hD => by rw [List.mem_singleton.1 hD]; rfl)) (by omega) (fun _ => by omega) (by omega)
      have HN := Lib.hid (show LE w9 w.heap.size v9 (es.take (k + 1)) (Ds' ++ [.slice (some ⟨g6, 0, none⟩) d.length (d.length + 1)]) ∧ Below w.heap.size w w9 from by
        rw [hsucc.out, ← HE.out]
        exact ⟨hE8.snoc htk.out own9 g9 hO8 hap, ((below_then HO.out.2 hbl (below_then bw7 bw7.size bC)).grown g9 (by omega) fun j hj => (HO.out.1.oe.2.1.lt j hj).1)⟩)
      rw [World.size_setCell] at run9
      have h9 := own_shape own9
      obtain ⟨V9, c9, rfl, -⟩ := h9
      clear own9 g9 hE8 hO8 O7 O6 bC bw7 bw6 b46 hbx6 od6 h77 hDl hap
      go_wp2_with (at_builtin; refine wpList_append_run rfl (.tmp 20) (.tmp 22) 22 rfl rfl _ _ rfl rfl _ _ run9 ?_)
      go_roundg (len - (k + 1))
      case measure => omega
      case rel => exact ⟨k + 1, V9, c9, _, rfl, by omega, rfl, by go_num, HN⟩
    · obtain rfl : k = len := by omega
      have hkl1 : ¬ (k : Int) < (k : Int) := by omega
      have htk := Lib.hid (show es.take k = es from List.take_of_length_le (by rw [HL.out]; exact Nat.le_refl _))
      go_wp2_with fail
      go_ret
      have h := HO.out
      rw [htk.out] at h
      exact ⟨_, rfl, ⟨Ds', h.1⟩, h.2⟩
end Go.Proofs.YtkjpfjgaabbggaaDoor
