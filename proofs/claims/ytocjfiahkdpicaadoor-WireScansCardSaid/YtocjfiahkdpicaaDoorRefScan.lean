/- muntinref01.Scan: the reference's frames. -/
import Derived.Test.YtocjfiahkdpicaaDoorRefOpen
import Derived.Test.YtocjfiahkdpicaaDoorScan
set_option linter.unusedVariables false
set_option linter.unusedSimpArgs false
namespace Go.Proofs.YtocjfiahkdpicaaDoor
open Go.RowKit

set_option maxRecDepth 100000 in
set_option maxHeartbeats 2000000 in
theorem rscan_any (A : Option Addr) (len c : Nat) (bs : List UInt8) (w : World) (hl : bs.length = len) (hc : len ≤ c) (hn : len ≤ 1099511627776) (hr : RB w A bs) :
    Calls Tryd.prog 19 #[.slice A len c] w fun e w' => ∃ v vs, e = .returned (.tuple #[v, .int .i64 (scan bs).2.1, Value.int .i64 (scan bs).2.2]) ∧
      w'.ownsRow w.heap.size 22 1 v vs.length vs ∧ OwnAll w' w.heap.size vs (scan bs).1 ∧ Below w.heap.size w w' := by
  subst hl
  obtain ⟨i0, hi, hz0, hz1, hz2⟩ := info_parts info_bytes
  have HI := Lib.hid hi
  go_enter Tryd.func19, Tryd.ntmps19
  go_wp2_with fail
  go_loopg [5, 6] bs.length (fun m v i wr => ∃ (k : Nat) (vs : List Value) (ps : List (List UInt8)), m = bs.length - k ∧ k ≤ bs.length ∧ i = .int .i64 k ∧ wr.ownsRow w.heap.size 22 1 v vs.length vs ∧ OwnAll wr w.heap.size vs ps ∧ Below w.heap.size w wr ∧
    Hid (scan bs = (ps ++ (scan (bs.drop k)).1, k + (scan (bs.drop k)).2.1, (scan (bs.drop k)).2.2) ∧ 8 * vs.length ≤ k))
  case atStart => exact ⟨0, [], [], by omega, by omega, rfl, World.ownsRow_nil _ _ _ _, OwnAll.nil _ _, Below.refl _ _, ⟨by simp, by simp⟩⟩
  case round =>
    obtain ⟨k, vs, ps, hm, hk, rfl, own, all, bel, HS⟩ := hrel
    obtain ⟨V, cv, rfl, hcv, hVn⟩ := own_shape own
    by_cases hkl : k = bs.length
    · subst hkl
      go_wp2_with fail
      go_ret3
      have e1 : scan bs = (ps, bs.length, 0) := by
        have := HS.out.1
        rw [List.drop_length, scan_nil] at this
        simpa using this
      rw [e1]
      exact ⟨_, vs, rfl, own, all, bel⟩
    · obtain ⟨g, o, rfl, hg, _⟩ := hr.addr (by omega)
      have hne : ¬ c = k := by omega
      have hkb : ((k : Int) == (bs.length : Int)) = false := beq_eq_false_iff_ne.2 (by omega)
      have hk2 : (k : Int) ≤ (bs.length : Int) := by omega
      go_wp2_with fail
      have r1 := (hr.drop k).below bel
      refine (ropen_any (some ⟨g, o + k, none⟩) (bs.length - k) (c - k) (bs.drop k) wr (by simp) (by omega) (by omega) r1).mono ?_
      rintro e w1 ⟨v1, rfl, own1, b1⟩
      have bel1 := below_then bel bel.size b1
      have all1 := all.below b1
      have own2 : w1.ownsRow w.heap.size 22 1 (.slice V vs.length cv) vs.length vs := own.kept (row := none) ⟨b1.os, b1.tape, b1.output, b1.size, fun k hk _ => b1.block k hk⟩ (by cases h : Value.ownBlock (.slice V vs.length cv) <;> simp)
      have hbne : bs.drop k ≠ [] := by intro h; have := congrArg List.length h; simp at this; omega
      by_cases hE : openE (bs.drop k) = 0
      · have hpos := openN_pos _ hE
        rw [hE]
        have hsc := scan_ok _ hbne hE
        obtain ⟨N, hN⟩ : ∃ N, N = openN (bs.drop k) := ⟨_, rfl⟩
        obtain ⟨p, hp⟩ : ∃ p, p = openP (bs.drop k) := ⟨_, rfl⟩
        rw [← hN, ← hp] at hsc
        rw [← hN] at hpos
        rw [← hp] at own1
        rw [← hN]
        simp only [List.length_drop] at hpos
        obtain ⟨S, cS, rfl, _⟩ := own_shape own1
        have hvs : ∀ u ∈ vs, ∀ q, u.ownBlock = some q → q < wr.heap.size := fun u hu q hq => (all.lt u hu q hq).2
        have all2 := all1.snoc own1 bel.size hvs
        have HSC := Lib.hid hsc
        have HA := Lib.hid all2
        have HNN := Lib.hid hN
        clear hsc hN hp hE all all1 own1 own
        have hcnt := HS.out.2
        clear all2
        go_wp2_with (at_builtin; refine wpList_append_one w1 rfl (.tmp 27) (.tmp 29) 36 rfl w.heap.size 22 (.slice none 0 0) 24 Tryd.underlying36 info_bytes rfl (.slice V vs.length cv) vs.length vs rfl own2 (.slice S p.length cS) rfl rfl (by unfold maxLen; omega) (by omega) bel1.size ?_; intro v2 w2 own3 hg3)
        have b3 : Below w1.heap.size w1 (w1.alloc (.cells #[.slice S p.length cS] 22)) := below_alloc _ _
        have all3 := HA.out.below b3
        have all4 : OwnAll w2 w.heap.size (vs ++ [.slice S p.length cS]) (ps ++ [p]) := all3.step fun u hu q hq => by
          refine hg3.block q (all3.lt u hu q hq).2 ?_
          intro he
          obtain ⟨i, hi, rfl⟩ := List.getElem_of_mem hu
          have o1 := all3.2.1 i _ ((ps ++ [p])[i]'(by rw [← all3.1]; exact hi)) (List.getElem?_eq_getElem hi) (List.getElem?_eq_getElem _)
          exact own_types o1 (own2.alloc (.cells #[.slice S p.length cS] 22)) (by decide) q hq he.symm
        have bel3 : Below w.heap.size w w2 := (bel1.trans (b3.mono bel1.size)).grown hg3 (by simp; have := bel1.size; omega) (fun q hq => (own2.lt q hq).1)
        clear all3 b3 hg3 own2 bel1 b1 bel hcnt
        have hN2 : (k : Int) + (N : Int) ≤ (bs.length : Int) := by omega
        go_wp2_with fail
        go_roundg (bs.length - (k + N))
        case measure => omega
        case rel =>
          refine ⟨k + N, vs ++ [.slice S p.length cS], ps ++ [p], rfl, by omega, by go_num, by rw [List.length_append]; exact own3, all4, bel3, ?_, ?_⟩
          · rw [HS.out.1, HSC.out, List.drop_drop]
            simp [Nat.add_assoc]
          · have := HS.out.2
            simp
            omega
      · have hsc := scan_err _ hbne hE
        obtain ⟨E, hEE⟩ : ∃ E, E = openE (bs.drop k) := ⟨_, rfl⟩
        rw [← hEE]
        rw [← hEE] at hsc hE
        obtain ⟨S, cS, rfl, _⟩ := own_shape own1
        have HSC := Lib.hid hsc
        have HEE := Lib.hid hE
        have hEb : ((E : Int) == 0) = false := beq_eq_false_iff_ne.2 (by omega)
        have hEb2 : ((E : Int) != 0) = true := by rw [bne_iff_ne]; omega
        clear hEE hsc hE own1 own all bel b1
        go_wp2_with fail
        go_ret3
        have e1 : scan bs = (ps, k, E) := by
          have := HS.out.1
          rw [HSC.out] at this
          simpa using this
        rw [e1]
        exact ⟨_, vs, rfl, own2, all1, bel1⟩
end Go.Proofs.YtocjfiahkdpicaaDoor
