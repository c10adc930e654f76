/- slices.Sort at numbers that are owned; quorum.Agreed: the contract. -/
import Derived.Test.YtaopipghooaekaaDoorQIndex
set_option linter.unusedVariables false
set_option linter.unusedSimpArgs false
namespace Go.Proofs.YtaopipghooaekaaDoor
open Go.RowKit Go.Sort

def sorted (ns : List Int) : List Int := ns.mergeSort fun x y => decide (x ≤ y)
theorem sorted_length (ns : List Int) : (sorted ns).length = ns.length := List.length_mergeSort ns
theorem info_int : (Tryd.prog.info? 3).map (fun i => (i.zero, i.size, i.bytes)) = some (some (.int .i64 0), 1, 8) := by kernel_rfl

theorem sort_any (base g n cap : Nat) (ns : List Int) (w : World) (h : w.ownsRow base 3 1 (.slice (some ⟨g, 0, none⟩) n cap) n (iv ns)) (hn : n ≤ 1000000000000) :
    Calls Tryd.prog 46 #[.slice (some ⟨g, 0, none⟩) n cap] w fun e w' => e = .returned (.tuple #[]) ∧ RI w' (some ⟨g, 0, none⟩) (sorted ns) ∧ Below base w w' := by
  have hl : ns.length = n := by have := h.1; simpa using this
  have hri : RI w (some ⟨g, 0, none⟩) ns := RI.own h
  rcases h.2 with ⟨h1, h2⟩ | ⟨g', cap', cur, h1, hbg, hg, hcap, hm, hsz, htk⟩
  · cases h1
  · cases h1
    have hlt : g < w.heap.size := (Array.getElem?_eq_some_iff.1 hg).1
    have hH : Holds (Value.int .i64) w g 0 ns.toArray := fun j hj => ⟨by
      have hj' : j < ns.length := by simpa using hj
      rw [hri.shelf j hj']
      simp [List.getD, hj'], by simp [World.frozen?, hg]⟩
    have := Tryd.slices_Sort_int g 0 cap ns w hH hlt (by omega)
    rw [hl] at this
    refine this.mono ?_
    rintro e w' ⟨rfl, q, os, rfl⟩
    have hsz2 : (sorted ns).toArray.size = ns.toArray.size := by simp [sorted_length]
    have hH2 : Holds (Value.int .i64) (Sort.ahead w q) g 0 ns.toArray := hH
    have hH3 := holds_grow (Value.int .i64) _ os g 0 _ (by simpa [Sort.ahead] using hlt) (holds_putRow (Value.int .i64) (Sort.ahead w q) g 0 ns.toArray (sorted ns).toArray hH2 hsz2)
    refine ⟨rfl, ?_, ?_⟩
    · refine RI.mk' fun i hi => ?_
      have := (hH3 i (by simpa using hi)).1
      rw [show (sorted ns).toArray[i]! = (sorted ns)[i] by simp [hi]] at this
      exact this
    · refine ⟨rfl, rfl, rfl, by simp [Sort.ahead], fun k hk => ?_⟩
      by_cases hkl : k < w.heap.size
      · rw [heap_grow_old _ _ (by simpa [Sort.ahead] using hkl)]
        have hne : k ≠ g := by omega
        simp [putRow, mapBlock, Sort.ahead, Array.getElem?_modify, Ne.symm hne]
      · omega

/-- what a node has -/
def idxOf (ms : List (Int × Int)) (v : Int) : Int := max (ms.getD (firstOf ms v) (0, 0)).2 0
/-- the index that a majority has -/
def agreedT (ns : List Int) (ms : List (Int × Int)) : Int := if rightB ns then (sorted (ns.map (idxOf ms))).getD ((ns.length - 1) / 2) 0 else 0
theorem agreedT_no {ns : List Int} {ms : List (Int × Int)} (h : rightB ns = false) : agreedT ns ms = 0 := by simp [agreedT, h]
theorem agreedT_ok {ns : List Int} {ms : List (Int × Int)} (h : rightB ns = true) : agreedT ns ms = (sorted (ns.map (idxOf ms))).getD ((ns.length - 1) / 2) 0 := by simp [agreedT, h]
theorem firstI_eq (ms : List (Int × Int)) (v : Int) : (∃ h : firstOf ms v < ms.length, firstI ms v = firstOf ms v ∧ idxOf ms v = max (ms[firstOf ms v]).2 0) ∨ (firstI ms v = -1 ∧ idxOf ms v = 0) := by
  by_cases h : firstOf ms v < ms.length
  · exact .inl ⟨h, by unfold firstI; rw [if_pos h], by unfold idxOf; simp [List.getD, h]⟩
  · exact .inr ⟨by unfold firstI; rw [if_neg h], by unfold idxOf; rw [List.getD_eq_getElem?_getD, List.getElem?_eq_none (by omega)]; rfl⟩
theorem grown_below {B : Nat} {w0 w wb : World} {o : Obj} {e : TypeId} {m base : Nat} {v : Value} {xs : List Value} (b : Below B w0 w) (own : w.ownsRow base e 1 v m xs) (hg : (w.alloc o).grownBy wb v.ownBlock) (hB : B ≤ w.heap.size) (hb : B ≤ base) : Below B w0 wb :=
  (b.alloc hB o).grown hg (by have := (below_alloc w o).size; omega) (fun k hk => Nat.le_trans hb (own.lt k hk).1)

set_option maxRecDepth 100000 in
set_option maxHeartbeats 2000000 in
theorem agreed_any (A : Option Addr) (n c : Nat) (ns : List Int) (A2 : Option Addr) (n2 c2 : Nat) (ms : List (Int × Int)) (w : World) (hr : RI w A ns) (hl : ns.length = n) (hn : n ≤ 100000000000000) (hr2 : RM w A2 ms) (hl2 : ms.length = n2) (hn2 : n2 ≤ 100000000000000) :
    Calls Tryd.prog 25 #[.agg #[.slice A n c], .slice A2 n2 c2] w fun e w' => e = .returned (.int .i64 (agreedT ns ms)) ∧ Below w.heap.size w w' := by
  have b := below_alloc w (.cells #[.slice A n c] 24)
  have HR := Lib.hid (hr.below b)
  have HR2 := Lib.hid (hr2.below b)
  have HL := Lib.hid hl
  have HL2 := Lib.hid hl2
  have HQ := Lib.hid (right_any A n c ns _ HR.out hl hn)
  clear hr hr2 hl hl2
  cases hb : rightB ns with
  | false =>
    rw [rightE_no hb] at HQ
    rw [agreedT_no hb]
    clear hb
    go_enter Tryd.func25, Tryd.ntmps25
    go_wp2_with (go_at_call 14; refine HQ.out.mono ?_; rintro e w1 ⟨rfl, b1⟩; rw [errQ_one])
    go_ret
    exact ⟨rfl, box_below b1⟩
  | true =>
    have hlen := right_len hb
    rw [HL.out] at hlen
    obtain ⟨h0, h5⟩ := hlen
    rw [rightE_ok hb] at HQ
    have HG := Lib.hid (agreedT_ok (ms := ms) hb)
    clear hb
    go_enter Tryd.func25, Tryd.ntmps25
    go_wp2_with (go_at_call 14; refine HQ.out.mono ?_; rintro e w1 ⟨rfl, b1⟩; rw [errQ_zero]; have c1 := box_cell b1)
    have B1 := box_below b1
    have HR1 := Lib.hid (HR.out.below b1)
    have HR21 := Lib.hid (HR2.out.below b1)
    clear HR HR2 c1
    go_loopg [5, 16] n (fun m vi ki wr => ∃ (k : Nat) (VA : Option Addr) (vc : Nat), m = n - k ∧ k ≤ n ∧ vi = .slice VA k vc ∧ ki = .int .i64 k ∧ wr.ownsRow w1.heap.size 3 1 (.slice VA k vc) k (iv ((ns.take k).map (idxOf ms))) ∧ Below w1.heap.size w1 wr)
    case atStart => exact ⟨0, none, 0, by omega, by omega, rfl, rfl, ⟨by simp [iv], .inl ⟨rfl, rfl⟩⟩, Below.refl _ _⟩
    case round =>
      obtain ⟨k, VA, vc, hm, hk, rfl, rfl, own, bel⟩ := hrel
      by_cases hkl : k < n
      · have hkl1 : (k : Int) < (n : Int) := by omega
        have hke : k < ns.length := by rw [HL.out]; exact hkl
        obtain ⟨g, o, rfl, hg, hc⟩ := (HR1.out.below bel).addr (by omega)
        have hce := hc k hke
        have htk : (ns.take (k + 1)).map (idxOf ms) = (ns.take k).map (idxOf ms) ++ [idxOf ms ns[k]] := by rw [List.take_succ_eq_append_getElem hke, List.map_append]; rfl
        obtain ⟨x, hx⟩ : ∃ x, x = ns[k] := ⟨_, rfl⟩
        rw [← hx] at hce htk
        have HTK := Lib.hid htk
        have HI := Lib.hid (index_any A2 n2 c2 ms x ⟨wr.heap.size, 0, none⟩ (wr.alloc (.cells #[.int .i64 x] 3)) ((HR21.out.below bel).below (below_alloc _ _)) HL2.out hn2 (by rw [World.cell?_alloc_at _ _ _ _ rfl]; rfl) (by simp) rfl)
        clear hc hx htk
        rcases firstI_eq ms x with ⟨hf, hf1, hf2⟩ | ⟨hf1, hf2⟩
        · obtain ⟨f, hff⟩ : ∃ f, f = firstOf ms x := ⟨_, rfl⟩
          rw [hf1, ← hff] at HI
          simp only [← hff] at hf hf2
          have hfn : (f : Int) < (n2 : Int) := by rw [← HL2.out]; omega
          obtain ⟨y, hy⟩ : ∃ y, y = (ms[f]).2 := ⟨_, rfl⟩
          rw [← hy] at hf2
          have HM := Lib.hid fun (w2 : World) (h : RM w2 A2 ms) => (show ∃ g2 o2, A2 = some ⟨g2, o2, none⟩ ∧ w2.cell? ⟨g2, o2 + f * 2 + 1, none⟩ = some (.int .i64 y) by
            obtain ⟨g2, o2, e, _, hc⟩ := h.addr (by omega)
            exact ⟨g2, o2, e, by rw [hy]; exact (hc f hf).2⟩)
          have HF2 := Lib.hid hf2
          clear hf hf1 hf2 hff hy
          obtain ⟨g2, o2, rfl, -⟩ := HM.out _ (HR21.out.below bel)
          go_wp2_with (first
            | (go_at_call 44; refine HI.out.mono ?_; rintro e w2 ⟨rfl, b2⟩; (have own2 := own_below (own_below own (below_alloc wr (.cells #[.int .i64 x] 3))) b2); have bel2 := below_then (bel.alloc bel.size (.cells #[.int .i64 x] 3)) (bel.alloc bel.size (.cells #[.int .i64 x] 3)).size b2; obtain ⟨_, _, e2, hcy⟩ := HM.out _ (HR21.out.below bel2); cases e2)
            | (at_builtin; refine wpList_append_one w2 rfl (.tmp 31) (.tmp 33) 22 rfl w1.heap.size 3 (.int .i64 0) 8 Tryd.underlying22 info_int rfl (.slice VA k vc) k (iv ((ns.take k).map (idxOf ms))) rfl own2 (.int .i64 (max y 0)) rfl rfl (by unfold maxLen; omega) (by omega) bel2.size ?_; intro v2 w3 own3 hg3))
          go_roundg (n - (k + 1))
          case measure => omega
          case rel =>
            obtain ⟨g3, cap3, rfl⟩ := own_slice own3 (by omega)
            refine ⟨k + 1, _, _, rfl, by omega, rfl, by go_num, ?_, grown_below bel2 own2 hg3 bel2.size (Nat.le_refl _)⟩
            rw [HTK.out, iv_append, HF2.out]
            exact own3
        · rw [hf1] at HI
          have HF2 := Lib.hid hf2
          clear hf1 hf2
          go_wp2_with (first
            | (go_at_call 44; refine HI.out.mono ?_; rintro e w2 ⟨rfl, b2⟩; (have own2 := own_below (own_below own (below_alloc wr (.cells #[.int .i64 x] 3))) b2); have bel2 := below_then (bel.alloc bel.size (.cells #[.int .i64 x] 3)) (bel.alloc bel.size (.cells #[.int .i64 x] 3)).size b2)
            | (at_builtin; refine wpList_append_one w2 rfl (.tmp 31) (.tmp 33) 22 rfl w1.heap.size 3 (.int .i64 0) 8 Tryd.underlying22 info_int rfl (.slice VA k vc) k (iv ((ns.take k).map (idxOf ms))) rfl own2 (.int .i64 0) rfl rfl (by unfold maxLen; omega) (by omega) bel2.size ?_; intro v2 w3 own3 hg3))
          go_roundg (n - (k + 1))
          case measure => omega
          case rel =>
            obtain ⟨g3, cap3, rfl⟩ := own_slice own3 (by omega)
            refine ⟨k + 1, _, _, rfl, by omega, rfl, by go_num, ?_, grown_below bel2 own2 hg3 bel2.size (Nat.le_refl _)⟩
            rw [HTK.out, iv_append, HF2.out]
            exact own3
      · obtain rfl : k = n := by omega
        obtain ⟨g, cap, hV⟩ := own_slice own h0
        cases hV
        obtain ⟨p, hp⟩ : ∃ p : Nat, p = (k - 1) / 2 := ⟨_, rfl⟩
        have hp1 : ((k : Int) - 1) / 2 = (p : Int) := by omega
        have hp2 : (p : Int) < (k : Int) := by omega
        have hp3 : p < k := by omega
        rw [List.take_of_length_le (by rw [HL.out]; exact Nat.le_refl _)] at own
        have HS := Lib.hid (sort_any w1.heap.size g k vc _ wr own (by omega))
        have HP := Lib.hid (show agreedT ns ms = (sorted (ns.map (idxOf ms))).getD p 0 by rw [HG.out, HL.out, hp])
        obtain ⟨S, hS⟩ : ∃ S, S = sorted (ns.map (idxOf ms)) := ⟨_, rfl⟩
        have hSl : S.length = k := by rw [hS, sorted_length, List.length_map, HL.out]
        rw [← hS] at HS HP
        obtain ⟨z, hz⟩ : ∃ z, z = S.getD p 0 := ⟨_, rfl⟩
        rw [← hz] at HP
        have HC := Lib.hid fun (w2 : World) (h : RI w2 (some ⟨g, 0, none⟩) S) => (show w2.cell? ⟨g, p, none⟩ = some (.int .i64 z) by have := h.shelf p (by omega); rw [hz]; simpa using this)
        clear hS hSl hz own hp
        go_wp2_with (go_at_call 46; refine HS.out.mono ?_; rintro e w2 ⟨rfl, r2, b2⟩; have c2 := HC.out _ r2)
        go_ret
        refine ⟨by rw [HP.out]; rfl, B1.trans ((bel.trans b2).mono B1.size)⟩
end Go.Proofs.YtaopipghooaekaaDoor
