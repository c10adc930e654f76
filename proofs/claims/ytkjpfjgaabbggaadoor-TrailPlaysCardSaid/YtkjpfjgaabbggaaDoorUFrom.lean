/- (*muntinref21.Trail).From: the contract. -/
import Derived.Test.YtkjpfjgaabbggaaDoorUNew
import Derived.Test.YtkjpfjgaabbggaaDoorTFrom
import Derived.Deep.LoopGhost
import Derived.Deep.CutRange
set_option linter.unusedVariables false
set_option linter.unusedSimpArgs false
namespace Go.Proofs.YtkjpfjgaabbggaaDoor
open Go.RowKit

theorem re_of_own {w : World} {base n c : Nat} {A : Option Addr} {es : List Ent} {Ds : List Value} (h : w.ownsRow base 44 4 (.slice A n c) n (ecells es Ds)) (hl : es.length = n) (hD : Ds.length = es.length) (hrd : ∀ k (h : k < es.length) (h' : k < Ds.length), RD w Ds[k] es[k].d) : RE w A es Ds := by
  refine ⟨hD, fun j u hu => ?_, hrd⟩
  have hj := (List.getElem?_eq_some_iff.1 hu).1
  rw [ecells_length hD, hl] at hj
  obtain ⟨g, cap, e, _⟩ := own_head h (by omega)
  cases e
  exact ⟨_, rfl, by rw [Addr.add_lit, Nat.zero_add]; exact (own_cell h j u hu).1⟩

set_option maxRecDepth 100000 in
set_option maxHeartbeats 4000000 in
theorem rfrom_any (base q : Nat) (i t : Int) (v : Value) (es : List Ent) (Ds : List Value) (x most : Int) (w : World) (h : RTO w base q i t v es Ds) (hfo : follows i t es = true) (h0 : 0 ≤ i) (h1 : i ≤ 10000000000000) (h2 : es.length ≤ 4200000000000) :
    Calls Tryd.prog 30 #[.pointer (some ⟨q, 0, none⟩), .int .i64 x, .int .i64 most] w (FromPost w (fromT i es x most)) := by
  obtain ⟨L, c, rfl, hre, -⟩ := h.2.2.re
  obtain ⟨n, hn⟩ : ∃ n, Hid (es.length = n) := ⟨_, Lib.hid rfl⟩
  rw [hn.out] at h h2
  obtain ⟨f, hf⟩ : ∃ f, Hid (f = if x ≤ i then 0 else (x - i - 1).toNat) := ⟨_, Lib.hid rfl⟩
  have hge := Lib.hid (show ∀ k : Nat, x ≤ i + 1 + k ↔ f ≤ k from fun k => by
    rw [hf.out]
    split <;> omega)
  have HT := Lib.hid h.tr
  have HRE := Lib.hid hre
  have HFO := Lib.hid hfo
  clear h hre hfo
  go_enter Tryd.func30, Tryd.ntmps30
  go_wp2_with fail
  go_loopg [7, 8] n (fun gk vi ki wr => ∃ (k m : Nat) (VA : Option Addr) (vc : Nat), gk = n - k ∧ k ≤ n ∧ vi = .slice VA m vc ∧ ki = .int .i64 k ∧ Hid (m = min (k - f) most.toNat) ∧ Hid (wr.ownsRow w.heap.size 44 4 (.slice VA m vc) m (ecells ((es.drop f).take m) ((Ds.drop f).take m)) ∧ Below w.heap.size w wr))
  case atStart => exact ⟨0, 0, none, 0, by omega, by omega, rfl, rfl, Lib.hid (by omega), Lib.hid ⟨by simpa [ecells] using World.ownsRow_nil w _ _ _, Below.refl _ _⟩⟩
  case round =>
    obtain ⟨k, m, VA, vc, hgk, hk, rfl, rfl, HM, HO⟩ := hrel
    obtain ⟨-, -, c2⟩ := HT.out.below HO.out.2
    by_cases hkm : k < n ∧ (m : Int) < most
    · obtain ⟨hkn, hmm⟩ := hkm
      have hkn1 : (k : Int) < (n : Int) := by omega
      have hke : k < es.length := by rw [hn.out]; exact hkn
      obtain ⟨g, o, rfl, hg, -⟩ := HRE.out.addr (by omega)
      obtain ⟨g0, g1, g2, g3, hrd⟩ := (HRE.out.below HO.out.2).at k hke
      have hkD : k < Ds.length := by rw [HRE.out.1]; exact hke
      obtain ⟨D, hD⟩ : ∃ D, D = Ds[k] := ⟨_, rfl⟩
      obtain ⟨E, hE⟩ : ∃ E, E = es[k] := ⟨_, rfl⟩
      rw [← hD] at g3 hrd
      rw [← hE] at g0 g1 g2 hrd
      have hEi := Lib.hid (show E.i = i + 1 + k by rw [hE]; exact follows_get HFO.out k hke)
      have HD := Lib.hid hD
      have HE := Lib.hid hE
      clear hD hE
      obtain ⟨ei, et, ek, d⟩ := E
      simp only at g0 g1 g2 hrd
      have hmk := HM.out
      by_cases hx : x ≤ ei
      · have hfk : f ≤ k := (hge.out k).1 (by have := hEi.out; simp only at this; omega)
        obtain ⟨DB, dc, rfl, -⟩ := hrd
        have hm2 : m = k - f := by omega
        have HS := Lib.hid (show (es.drop f).take (m + 1) = (es.drop f).take m ++ [⟨ei, et, ek, d⟩] ∧ (Ds.drop f).take (m + 1) = (Ds.drop f).take m ++ [.slice DB d.length dc] from by
          have e1 : m < (es.drop f).length := by rw [List.length_drop]; omega
          have e2 : m < (Ds.drop f).length := by rw [List.length_drop]; omega
          rw [List.take_succ_eq_append_getElem e1, List.take_succ_eq_append_getElem e2]
          have e3 : f + m = k := by omega
          simp only [List.getElem_drop, e3]
          rw [← HD.out, ← HE.out]
          exact ⟨rfl, rfl⟩)
        have bC := below_alloc wr (.cells #[.int .i64 ei, .int .i64 et, .int .i64 ek, .slice DB d.length dc] 44)
        have hl1 : ((es.drop f).take m).length = m := by rw [List.length_take, List.length_drop]; omega
        have hl2 : ((Ds.drop f).take m).length = ((es.drop f).take m).length := by rw [hl1, List.length_take, List.length_drop]; omega
        have hsz := HO.out.2.size
        have hsz2 := bC.size
        obtain ⟨v9, w9, run9, own9, g9, -⟩ := run_append_ent (w := wr.alloc (.cells #[.int .i64 ei, .int .i64 et, .int .i64 ek, .slice DB d.length dc] 44)) w.heap.size (.slice VA m vc) m ((es.drop f).take m) ((Ds.drop f).take m) hl2 hl1 (own_below HO.out.1 bC) ⟨wr.heap.size, 0, none⟩ 1 1 [⟨ei, et, ek, d⟩] [.slice DB d.length dc] rfl rfl (ent_news wr ⟨ei, et, ek, d⟩ _) (ecells_one rfl (fun D hD => by rw [List.mem_singleton.1 hD]; rfl)) (by omega) (fun _ => by omega) (by omega)
        have B9 : Below w.heap.size w w9 := (below_then HO.out.2 HO.out.2.size bC).grown g9 (by omega) fun j hj => (HO.out.1.lt j hj).1
        rw [← HS.out.1, ← HS.out.2] at own9
        obtain ⟨V9, c9, rfl, -⟩ := own_shape own9
        have HN := Lib.hid (And.intro own9 B9)
        have HMK := Lib.hid hm2
        clear own9 g9 B9 bC hl1 hl2 hsz hsz2 hmk hm2
        go_wp2_with (at_builtin; refine wpList_append_run rfl (.tmp 34) (.tmp 42) 22 rfl rfl _ _ rfl rfl _ _ run9 ?_)
        go_roundg (n - (k + 1))
        case measure => omega
        case rel => exact ⟨k + 1, m + 1, V9, c9, rfl, by omega, rfl, by go_num, Lib.hid (by have := HMK.out; omega), HN⟩
      · have hfk : ¬ f ≤ k := fun h => hx (by have := (hge.out k).2 h; have := hEi.out; simp only at this; omega)
        have HMK := Lib.hid hmk
        clear hmk
        go_wp2_with fail
        go_roundg (n - (k + 1))
        case measure => omega
        case rel => exact ⟨k + 1, m, VA, vc, rfl, by omega, rfl, by go_num, Lib.hid (by have := HMK.out; omega), HO⟩
    · have hmk := HM.out
      have hl1 : m ≤ (es.drop f).length := by rw [List.length_drop, hn.out]; omega
      have hl2 : m ≤ (Ds.drop f).length := by rw [List.length_drop, HRE.out.1, hn.out]; omega
      have HFT := Lib.hid (show (es.drop f).take m = fromT i es x most from by
        unfold fromT
        rw [← hf.out]
        by_cases e : k = n
        · rw [show m = min (es.drop f).length most.toNat by rw [List.length_drop, hn.out, ← e]; exact hmk]
          rw [Nat.min_comm, List.take_eq_take_min (i := most.toNat)]
        · have : m = most.toNat := by omega
          rw [this])
      have HC := Lib.hid (rcopied_any VA m vc ((es.drop f).take m) ((Ds.drop f).take m) wr (re_of_own HO.out.1 (by rw [List.length_take]; omega) (by rw [List.length_take, List.length_take]; omega) (fun j h1 h2 => by
        simp only [List.getElem_take, List.getElem_drop]
        exact ((HRE.out.below HO.out.2).2.2 _ _ _))) (by rw [List.length_take]; omega) (by omega))
      rw [HFT.out] at HC
      clear hmk hl1 hl2
      by_cases hkn : k < n
      · have hkn1 : (k : Int) < (n : Int) := by omega
        have hmm : ¬ (m : Int) < most := fun h => hkm ⟨hkn, h⟩
        clear hkm
        go_wp2_with fail
        refine HC.out.mono ?_
        rintro e w5 ⟨v5, D5, rfl, oe, b5⟩
        go_wp2_with fail
        go_ret
        exact ⟨_, D5, rfl, oe.lower HO.out.2.size, below_then HO.out.2 HO.out.2.size b5⟩
      · have hkn1 : ¬ (k : Int) < (n : Int) := by omega
        clear hkm
        go_wp2_with fail
        refine HC.out.mono ?_
        rintro e w5 ⟨v5, D5, rfl, oe, b5⟩
        go_wp2_with fail
        go_ret
        exact ⟨_, D5, rfl, oe.lower HO.out.2.size, below_then HO.out.2 HO.out.2.size b5⟩
end Go.Proofs.YtkjpfjgaabbggaaDoor
