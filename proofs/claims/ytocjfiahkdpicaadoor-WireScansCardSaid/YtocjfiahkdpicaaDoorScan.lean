/- wire.Scan: as many frames as are whole. -/
import Derived.Test.YtocjfiahkdpicaaDoorScanPlain
import Derived.Deep.LoopGhost
set_option linter.unusedVariables false
set_option linter.unusedSimpArgs false
namespace Go.Proofs.YtocjfiahkdpicaaDoor
open Go.RowKit

theorem info_bytes : (Tryd.prog.info? 22).map (fun i => (i.zero, i.size, i.bytes)) = some (some (.slice none 0 0), 1, 24) := by kernel_rfl

/-- values that own bytes each, no two in one block -/
def OwnAll (w : World) (base : Nat) (vs : List Value) (ps : List (List UInt8)) : Prop :=
  vs.length = ps.length ∧ (∀ (i : Nat) (v : Value) (p : List UInt8), vs[i]? = some v → ps[i]? = some p → w.ownsRow base 5 1 v p.length (bv p)) ∧
    vs.Pairwise (fun u v => ∀ k, u.ownBlock = some k → v.ownBlock ≠ some k)
theorem OwnAll.nil (w : World) (base : Nat) : OwnAll w base [] [] := ⟨rfl, fun i v p h _ => by simp at h, List.Pairwise.nil⟩
theorem OwnAll.step {w w' : World} {base : Nat} {vs : List Value} {ps : List (List UInt8)} (h : OwnAll w base vs ps)
    (hb : ∀ v ∈ vs, ∀ k, v.ownBlock = some k → w'.heap[k]? = w.heap[k]?) : OwnAll w' base vs ps := by
  refine ⟨h.1, fun i v p hv hp => ?_, h.2.2⟩
  have o := h.2.1 i v p hv hp
  refine ⟨o.1, ?_⟩
  rcases o.2 with h1 | ⟨g, cap, cur, rfl, hg, hh, r⟩
  · exact .inl h1
  · exact .inr ⟨g, cap, cur, rfl, hg, by rw [hb _ (List.mem_of_getElem? hv) g rfl]; exact hh, r⟩
theorem OwnAll.lt {w : World} {base : Nat} {vs : List Value} {ps : List (List UInt8)} (h : OwnAll w base vs ps) : ∀ v ∈ vs, ∀ k, v.ownBlock = some k → base ≤ k ∧ k < w.heap.size := by
  intro v hv k hk
  obtain ⟨i, hi, rfl⟩ := List.getElem_of_mem hv
  exact (h.2.1 i _ (ps[i]'(by rw [← h.1]; exact hi)) (List.getElem?_eq_getElem hi) (List.getElem?_eq_getElem _)).lt k hk
theorem OwnAll.below {w w' : World} {base : Nat} {vs : List Value} {ps : List (List UInt8)} (h : OwnAll w base vs ps) (hb : Below w.heap.size w w') : OwnAll w' base vs ps :=
  h.step fun v hv k hk => hb.block k (h.lt v hv k hk).2
theorem OwnAll.snoc {w : World} {base b' : Nat} {vs : List Value} {ps : List (List UInt8)} {v : Value} {p : List UInt8} (h : OwnAll w base vs ps) (o : w.ownsRow b' 5 1 v p.length (bv p)) (hb : base ≤ b')
    (hne : ∀ u ∈ vs, ∀ k, u.ownBlock = some k → k < b') : OwnAll w base (vs ++ [v]) (ps ++ [p]) := by
  have o2 : w.ownsRow base 5 1 v p.length (bv p) := by
    refine ⟨o.1, ?_⟩
    rcases o.2 with h1 | ⟨g, cap, cur, hv, hg, r⟩
    · exact .inl h1
    · exact .inr ⟨g, cap, cur, hv, Nat.le_trans hb hg, r⟩
  refine ⟨by simp [h.1], fun i u q hu hq => ?_, ?_⟩
  · by_cases hi : i < vs.length
    · rw [List.getElem?_append_left hi] at hu
      rw [List.getElem?_append_left (by rw [← h.1]; exact hi)] at hq
      exact h.2.1 i u q hu hq
    · have hi2 : i = vs.length := by
        have := (List.getElem?_eq_some_iff.1 hu).1
        simp at this
        omega
      subst hi2
      rw [List.getElem?_append_right (Nat.le_refl _)] at hu
      rw [h.1, List.getElem?_append_right (Nat.le_refl _)] at hq
      simp at hu hq
      subst hu hq
      exact o2
  · rw [List.pairwise_append]
    refine ⟨h.2.2, List.pairwise_singleton _ _, fun u hu x hx k hk => ?_⟩
    simp only [List.mem_singleton] at hx
    subst hx
    intro hk2
    have h1 := hne u hu k hk
    have h2 := (o.lt k hk2).1
    omega
theorem own_types {w : World} {b b' : Nat} {e e' : TypeId} {s s' n n' : Nat} {v v' : Value} {xs xs' : List Value} (h : w.ownsRow b e s v n xs) (h' : w.ownsRow b' e' s' v' n' xs') (hne : e ≠ e') : ∀ k, v.ownBlock = some k → v'.ownBlock ≠ some k := by
  intro k hk hk'
  rcases h.2 with ⟨rfl, _⟩ | ⟨g, cap, cur, rfl, _, hg, _⟩
  · simp [Value.ownBlock] at hk
  · rcases h'.2 with ⟨rfl, _⟩ | ⟨g', cap', cur', rfl, _, hg', _⟩
    · simp [Value.ownBlock] at hk'
    · simp [Value.ownBlock] at hk hk'
      subst hk; subst hk'
      rw [hg] at hg'
      injection hg' with hg'
      injection hg' with _ ht
      exact hne ht

set_option maxRecDepth 100000 in
set_option maxHeartbeats 2000000 in
theorem scan_any (A : Option Addr) (len c : Nat) (bs : List UInt8) (w : World) (hl : bs.length = len) (hc : len ≤ c) (hn : len ≤ 1099511627776) (hr : RB w A bs) :
    Calls Tryd.prog 18 #[.slice A len c] w fun e w' => ∃ v vs, e = .returned (.tuple #[v, .int .i64 (scan bs).2.1, errV (scan bs).2.2]) ∧
      w'.ownsRow w.heap.size 22 1 v vs.length vs ∧ OwnAll w' w.heap.size vs (scan bs).1 ∧ Below w.heap.size w w' := by
  subst hl
  obtain ⟨i0, hi, hz0, hz1, hz2⟩ := info_parts info_bytes
  have HI := Lib.hid hi
  go_enter Tryd.func18, Tryd.ntmps18
  go_wp2_with fail
  go_loopg [5, 6] bs.length (fun m v i wr => ∃ (k : Nat) (vs : List Value) (ps : List (List UInt8)), m = bs.length - k ∧ k ≤ bs.length ∧ i = .int .i64 k ∧ wr.ownsRow w.heap.size 22 1 v vs.length vs ∧ OwnAll wr w.heap.size vs ps ∧ Below w.heap.size w wr ∧
    Hid (scan bs = (ps ++ (scan (bs.drop k)).1, k + (scan (bs.drop k)).2.1, (scan (bs.drop k)).2.2) ∧ 8 * vs.length ≤ k))
  case atStart => exact ⟨0, [], [], by omega, by omega, rfl, World.ownsRow_nil _ _ _ _, OwnAll.nil _ _, Below.refl _ _, ⟨by simp, by simp⟩⟩
  case round =>
    obtain ⟨k, vs, ps, hm, hk, rfl, own, all, bel, HS⟩ := hrel
    obtain ⟨V, cv, rfl, hcv, hVn⟩ := own_shape own
    by_cases hkl : k = bs.length
    · subst hkl
      go_wp2_with fail
      go_ret3
      have e1 : scan bs = (ps, bs.length, 0) := by
        have := HS.out.1
        rw [List.drop_length, scan_nil] at this
        simpa using this
      rw [e1]
      exact ⟨_, vs, rfl, own, all, bel⟩
    · obtain ⟨g, o, rfl, hg, _⟩ := hr.addr (by omega)
      have hne : ¬ c = k := by omega
      have hkb : ((k : Int) == (bs.length : Int)) = false := beq_eq_false_iff_ne.2 (by omega)
      have hk2 : (k : Int) ≤ (bs.length : Int) := by omega
      go_wp2_with fail
      have r1 := (hr.drop k).below bel
      refine (open_any (some ⟨g, o + k, none⟩) (bs.length - k) (c - k) (bs.drop k) wr (by simp) (by omega) (by omega) r1).mono ?_
      rintro e w1 ⟨v1, rfl, own1, b1⟩
      have bel1 := below_then bel bel.size b1
      have all1 := all.below b1
      have own2 : w1.ownsRow w.heap.size 22 1 (.slice V vs.length cv) vs.length vs := own.kept (row := none) ⟨b1.os, b1.tape, b1.output, b1.size, fun k hk _ => b1.block k hk⟩ (by cases h : Value.ownBlock (.slice V vs.length cv) <;> simp)
      have hbne : bs.drop k ≠ [] := by intro h; have := congrArg List.length h; simp at this; omega
      by_cases hE : openE (bs.drop k) = 0
      · have hpos := openN_pos _ hE
        rw [hE, errV_zero]
        have hsc := scan_ok _ hbne hE
        obtain ⟨N, hN⟩ : ∃ N, N = openN (bs.drop k) := ⟨_, rfl⟩
        obtain ⟨p, hp⟩ : ∃ p, p = openP (bs.drop k) := ⟨_, rfl⟩
        rw [← hN, ← hp] at hsc
        rw [← hN] at hpos
        rw [← hp] at own1
        rw [← hN]
        simp only [List.length_drop] at hpos
        obtain ⟨S, cS, rfl, _⟩ := own_shape own1
        have hvs : ∀ u ∈ vs, ∀ q, u.ownBlock = some q → q < wr.heap.size := fun u hu q hq => (all.lt u hu q hq).2
        have all2 := all1.snoc own1 bel.size hvs
        have HSC := Lib.hid hsc
        have HA := Lib.hid all2
        have HNN := Lib.hid hN
        clear hsc hN hp hE all all1 own1 own
        have hcnt := HS.out.2
        clear all2
        go_wp2_with (at_builtin; refine wpList_append_one w1 rfl (.tmp 29) (.tmp 31) 36 rfl w.heap.size 22 (.slice none 0 0) 24 Tryd.underlying36 info_bytes rfl (.slice V vs.length cv) vs.length vs rfl own2 (.slice S p.length cS) rfl rfl (by unfold maxLen; omega) (by omega) bel1.size ?_; intro v2 w2 own3 hg3)
        have b3 : Below w1.heap.size w1 (w1.alloc (.cells #[.slice S p.length cS] 22)) := below_alloc _ _
        have all3 := HA.out.below b3
        have all4 : OwnAll w2 w.heap.size (vs ++ [.slice S p.length cS]) (ps ++ [p]) := all3.step fun u hu q hq => by
          refine hg3.block q (all3.lt u hu q hq).2 ?_
          intro he
          obtain ⟨i, hi, rfl⟩ := List.getElem_of_mem hu
          have o1 := all3.2.1 i _ ((ps ++ [p])[i]'(by rw [← all3.1]; exact hi)) (List.getElem?_eq_getElem hi) (List.getElem?_eq_getElem _)
          exact own_types o1 (own2.alloc (.cells #[.slice S p.length cS] 22)) (by decide) q hq he.symm
        have bel3 : Below w.heap.size w w2 := (bel1.trans (b3.mono bel1.size)).grown hg3 (by simp; have := bel1.size; omega) (fun q hq => (own2.lt q hq).1)
        clear all3 b3 hg3 own2 bel1 b1 bel hcnt
        have hN2 : (k : Int) + (N : Int) ≤ (bs.length : Int) := by omega
        go_wp2_with fail
        go_roundg (bs.length - (k + N))
        case measure => omega
        case rel =>
          refine ⟨k + N, vs ++ [.slice S p.length cS], ps ++ [p], rfl, by omega, by go_num, by rw [List.length_append]; exact own3, all4, bel3, ?_, ?_⟩
          · rw [HS.out.1, HSC.out, List.drop_drop]
            simp [Nat.add_assoc]
          · have := HS.out.2
            simp
            omega
      · have hsc := scan_err _ hbne hE
        obtain ⟨E, hEE⟩ : ∃ E, E = openE (bs.drop k) := ⟨_, rfl⟩
        rw [errV_pos _ hE, ← hEE]
        rw [← hEE] at hsc hE
        obtain ⟨S, cS, rfl, _⟩ := own_shape own1
        have HSC := Lib.hid hsc
        have HEE := Lib.hid hE
        clear hEE hsc hE own1 own all bel b1
        go_wp2_with fail
        go_ret3
        have e1 : scan bs = (ps, k, E) := by
          have := HS.out.1
          rw [HSC.out] at this
          simpa using this
        rw [e1]
        exact ⟨_, vs, by rw [errV_pos _ HEE.out]; rfl, own2, all1, bel1⟩
end Go.Proofs.YtocjfiahkdpicaaDoor
