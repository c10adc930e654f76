/- session.Restore: the contract. -/
import Derived.Test.YtbdokphemdkhmaaDoorSRS
import Derived.Test.YtbdokphemdkhmaaDoorIMapEntry
import Derived.Test.YtbdokphemdkhmaaDoorSessionOnce
set_option linter.unusedVariables false
set_option linter.unusedSimpArgs false
namespace Go.Proofs.YtbdokphemdkhmaaDoor
open Go.RowKit

/-- may one come behind some? -/
def okE (clock : Int) (l : List SV) (y : SV) : Prop := (∀ s ∈ l, s.i < y.i) ∧ 1 ≤ y.i ∧ 1 ≤ y.u ∧ y.u ≤ clock ∧ (∀ s ∈ l, s.u ≠ y.u) ∧ 0 ≤ y.l ∧ ¬ (y.l = 0 ∧ 0 < y.r.length) ∧ y.r.length ≤ 16384
def Good (clock : Int) (l : List SV) : Prop := ∀ k (h : k < l.length), okE clock (l.take k) l[k]
theorem Good.nil (clock : Int) : Good clock [] := fun k h => by simp at h
theorem Good.take {clock : Int} {l : List SV} (h : Good clock l) (n : Nat) : Good clock (l.take n) := fun k hk => by
  have hk' : k < l.length := by simp at hk; omega
  have hkn : k < n := by simp at hk; omega
  have := h k hk'
  rw [List.getElem_take, List.take_take, Nat.min_eq_left (by omega)]
  exact this
theorem Good.step {clock : Int} {l : List SV} {i : Nat} (h : Good clock (l.take i)) (hi : i < l.length) (hy : okE clock (l.take i) l[i]) : Good clock (l.take (i + 1)) := fun k hk => by
  have hk' : k < i + 1 := by simp at hk; omega
  rw [List.getElem_take, List.take_take, Nat.min_eq_left (by omega)]
  by_cases hki : k = i
  · subst hki; exact hy
  · have := h k (by simp; omega)
    rw [List.getElem_take, List.take_take, Nat.min_eq_left (by omega)] at this
    exact this
def restOK (clock : Int) (l : List SV) : Prop := Good clock l ∧ 0 ≤ clock ∧ clock ≤ 4611686018427387904 ∧ l.length ≤ 8
theorem bad_at {clock : Int} {l : List SV} {i : Nat} (hi : i < l.length) (h : ¬ okE clock (l.take i) l[i]) : ¬ restOK clock l := fun hr => h (hr.1 i hi)
theorem Inv.good {clock : Int} {l : List SV} (h : Inv clock l) : Good clock l := fun k hk => by
  obtain ⟨a1, a2, a3, a4, a5, a6, a7, a8⟩ := h.each l[k] (List.getElem_mem _)
  have hlt : ∀ s ∈ l.take k, s.i < l[k].i := fun s hs => by
    obtain ⟨j, hj, rfl⟩ := List.getElem_of_mem hs
    rw [List.getElem_take]
    exact List.pairwise_iff_getElem.1 h.ris j k (by simp at hj; omega) hk (by simp at hj; omega)
  refine ⟨hlt, a1, a5, a6, fun s hs e => ?_, a3, fun e => ?_, a7⟩
  · have := h.used s (List.mem_of_mem_take hs) l[k] (List.getElem_mem _) e
    have h2 := hlt s hs
    rw [this] at h2
    omega
  · have := a8 e.1
    rw [this] at e
    simp at e
theorem Good.same {clock : Int} {l m : List SV} (h : Good clock l) (hc : l.map core = m.map core) : Good clock m := fun k hk => by
  have hl : l.length = m.length := by simpa using congrArg List.length hc
  have hk' : k < l.length := by omega
  have hck : core (l[k]) = core (m[k]) := by
    have := congrArg (fun x => x[k]?) hc
    simpa [hk, hk'] using this
  have ht : (l.take k).map core = (m.take k).map core := by rw [List.map_take, List.map_take, hc]
  obtain ⟨b1, b2, b3, b4, b5, b6, b7, b8⟩ := h k hk'
  simp only [core, Prod.mk.injEq] at hck
  obtain ⟨e1, e2, e3, e4⟩ := hck
  have hmem : ∀ s ∈ m.take k, ∃ t ∈ l.take k, core t = core s := fun s hs => by
    have : core s ∈ (l.take k).map core := by rw [ht]; exact List.mem_map.2 ⟨s, hs, rfl⟩
    obtain ⟨t, ht1, ht2⟩ := List.mem_map.1 this
    exact ⟨t, ht1, ht2⟩
  refine ⟨fun s hs => ?_, ?_, ?_, ?_, fun s hs => ?_, ?_, ?_, ?_⟩
  · obtain ⟨t, h1, h2⟩ := hmem s hs
    have e : t.i = s.i := congrArg (fun x => x.1) h2
    rw [← e, ← e1]; exact b1 t h1
  · rw [← e1]; exact b2
  · rw [← e3]; exact b3
  · rw [← e3]; exact b4
  · obtain ⟨t, h1, h2⟩ := hmem s hs
    have e : t.u = s.u := congrArg (fun x => x.2.2.1) h2
    rw [← e, ← e3]; exact b5 t h1
  · rw [← e2]; exact b6
  · rw [← e2, ← e4]; exact b7
  · rw [← e4]; exact b8

theorem insS_end {x : SV} : ∀ {ss : List SV}, (∀ s ∈ ss, s.i < x.i) → insS x ss = ss ++ [x]
  | [], _ => rfl
  | y :: r, h => by
    have h1 := h y (by simp)
    simp only [insS, List.cons_append]
    rw [if_neg (by omega), insS_end fun s hs => h s (by simp [hs])]
theorem putS_end {x : SV} {ss : List SV} (h : ∀ s ∈ ss, s.i < x.i) : putS x ss = ss ++ [x] := by
  unfold putS
  rw [delS_none fun s hs => by have := h s hs; omega, insS_end h]
theorem TB.stored {w w' : World} {base p b : Nat} {clock : Int} {ss : List SV} (h : TB w base p b clock ss) (x : SV) (him : IM w' b (sI (putS x ss))) (hg : w.grownBy w' (some b)) (ho : OD w base x.D x.r) : TB w' base p b clock (putS x ss) := by
  refine ⟨h.1, h.2.1, (hg.block p h.plt fun e => h.ne (Option.some.inj e)).trans h.2.2.1, him, fun s hs => ?_⟩
  rcases mem_putS.1 hs with rfl | ⟨hs, -⟩
  · exact ho.step fun k hk => hg.block k (ho.1.lt k hk).2 fun e => h.neb ho (by rw [hk, e])
  · have o := h.2.2.2.2 s hs
    exact o.step fun k hk => hg.block k (o.1.lt k hk).2 fun e => h.neb o (by rw [hk, e])
theorem TB.clocked {w : World} {base p b : Nat} {clock : Int} {ss : List SV} (h : TB w base p b clock ss) (c : Int) : TB (w.setCell ⟨p, 1, none⟩ (.int .i64 c)) base p b c ss := by
  refine ⟨h.1, h.2.1, ?_, h.2.2.2.1.step (heap_setCell_other _ _ _ _ (fun e => h.ne e.symm)), fun s hs => ?_⟩
  · rw [heap_setCell_same _ _ _ _ _ _ h.2.2.1]; rfl
  · have o := h.2.2.2.2 s hs
    exact o.step fun k hk => heap_setCell_other _ _ _ _ fun e => h.nep o (by rw [hk, e])
theorem zeroB (w : World) : (zeroValue 4).run Tryd.prog w = .ok (.bool false) w := by kernel_rfl

/-- the loop of Restore, under way -/
structure RL (w : World) (p b bu : Nat) (clock : Int) (ls : List SV) (wr : World) (i : Nat) (last : Int) (ss : List SV) (eu : IVs) : Prop where
  tb : TB wr w.heap.size p b clock ss
  iu : IM wr bu eu
  lu : eu.length ≤ i
  lss : ss.length = i
  good : Good clock (ls.take i)
  same : ss.map core = (ls.take i).map core
  top : (∀ s ∈ ls.take i, s.i ≤ last) ∧ (last = 0 ∨ ∃ s ∈ ls.take i, s.i = last) ∧ 0 ≤ last
  u1 : ∀ s ∈ ls.take i, look s.u eu = some (.bool true)
  u2 : ∀ u v, look u eu = some v → v = .bool true ∧ ∃ s ∈ ls.take i, s.u = u
  bel : Below w.heap.size w wr

theorem RL.below {w : World} {p b bu : Nat} {clock : Int} {ls : List SV} {wr wr' : World} {i : Nat} {last : Int} {ss : List SV} {eu : IVs} (h : RL w p b bu clock ls wr i last ss eu) (hb : Below wr.heap.size wr wr') : RL w p b bu clock ls wr' i last ss eu :=
  ⟨h.tb.below hb, h.iu.below hb, h.lu, h.lss, h.good, h.same, h.top, h.u1, h.u2, below_then h.bel h.bel.size hb⟩
/-- what Restore hands back -/
def RestP (w : World) (clock : Int) (ls : List SV) (e : Ending) (w' : World) : Prop :=
  Below w.heap.size w w' ∧ ((restOK clock ls ∧ ∃ p b ss, e = .returned (.tuple #[.pointer (some ⟨p, 0, none⟩), .nilIface]) ∧ TB w' w.heap.size p b clock ss ∧ ss.map core = ls.map core) ∨ (¬ restOK clock ls ∧ e = .returned (.tuple #[.pointer none, errV 1])))

set_option maxRecDepth 100000 in
set_option maxHeartbeats 4000000 in
theorem restore_any (A : Option Addr) (n c : Nat) (ls : List SV) (clock : Int) (w : World) (hr : RS w A ls) (hl : ls.length = n) (hn : n ≤ 10000000000000) (hwf : ∀ s ∈ ls, (Lit.int .i64 s.i).wf = true ∧ (Lit.int .i64 s.u).wf = true) :
    Calls Tryd.prog 14 #[.slice A n c, .int .i64 clock] w (RestP w clock ls) := by
  have hmm := @run_makeMap Tryd.prog
  have HR := Lib.hid hr
  have HL := Lib.hid hl
  have HW := Lib.hid hwf
  clear hr hl hwf
  go_enter Tryd.func14, Tryd.ntmps14
  go_wp2_with fail
  refine (new_any w).mono ?_
  rintro e w2 ⟨p, b, rfl, t2, b2⟩
  have hpw := t2.1
  have hbw := t2.2.1
  have hblt := t2.2.2.2.1.lt
  have k0 := t2.cm
  have k1 := t2.cc
  have f1 := frozen_of t2.2.2.1 1
  have T2 := Lib.hid (t2.clocked clock)
  have B2 := Lib.hid (show Below w.heap.size w (w2.setCell ⟨p, 1, none⟩ (.int .i64 clock)) from b2.setCell (by exact hpw) _)
  clear t2 b2
  go_wp2_with fail
  obtain ⟨bu, hbu⟩ : ∃ bu, bu = w2.heap.size := ⟨_, rfl⟩
  rw [← hbu]
  have hz : (w2.setCell ⟨p, 1, none⟩ (.int .i64 clock)).heap.size = bu := by rw [World.size_setCell, hbu]
  have bM := below_alloc (w2.setCell ⟨p, 1, none⟩ (.int .i64 clock)) (.map #[] 0)
  have HR0 := Lib.hid (show RL w p b bu clock ls ((w2.setCell ⟨p, 1, none⟩ (.int .i64 clock)).alloc (.map #[] 0)) 0 0 [] [] from
    ⟨T2.out.below bM, by have := IM.made (w2.setCell ⟨p, 1, none⟩ (.int .i64 clock)); rwa [hz] at this, by simp, rfl, Good.nil _, rfl, ⟨by simp, .inl rfl, by omega⟩, by simp, fun u v h => by simp [look] at h, below_then B2.out B2.out.size bM⟩)
  have hne := Lib.hid (show b ≠ bu by omega)
  have hbuw := Lib.hid (show w.heap.size ≤ bu by have := B2.out.size; rw [hz] at this; exact this)
  clear hz bM hbu k0 k1 f1 hblt
  go_loopg [8, 19] n (fun q la ti wr => ∃ (i : Nat) (last : Int) (ss : List SV) (eu : IVs), q = n - i ∧ i ≤ n ∧ ti = .int .i64 i ∧ la = .int .i64 last ∧ RL w p b bu clock ls wr i last ss eu)
  case atStart => exact ⟨0, 0, [], [], by omega, by omega, rfl, rfl, HR0.out⟩
  case round =>
    obtain ⟨i, last, ss, eu, hq, hi, rfl, rfl, O⟩ := hrel
    have HO := Lib.hid O
    clear O
    by_cases hin : i < n
    · have hin1 : (i : Int) < (n : Int) := by omega
      have hil : i < ls.length := by rw [HL.out]; exact hin
      obtain ⟨g, o, rfl, hg, hc⟩ := (HR.out.below HO.out.bel).addr (by omega)
      obtain ⟨c0, c1, c2', c3, hrd⟩ := hc i hil
      obtain ⟨wyi, wyu⟩ := HW.out _ (List.getElem_mem hil)
      obtain ⟨y, hy⟩ : ∃ y, y = ls[i] := ⟨_, rfl⟩
      rw [← hy] at c0 c1 c2' c3 hrd wyi wyu
      obtain ⟨yi, yl, yu, yA, yc, yr⟩ := y
      simp only [SV.D] at c0 c1 c2' c3 hrd wyi wyu
      have HY := Lib.hid hy
      have bA := below_alloc wr (.cells #[.int .i64 yi, .int .i64 yl, .int .i64 yu, .slice yA yr.length yc] 44)
      have HC := Lib.hid (cloneb_any _ _ _ (hrd.below bA))
      have HBX := Lib.hid (heap_alloc_new wr (.cells #[.int .i64 yi, .int .i64 yl, .int .i64 yu, .slice yA yr.length yc] 44))
      have HLT := Lib.hid (show wr.heap.size < (wr.alloc (.cells #[.int .i64 yi, .int .i64 yl, .int .i64 yu, .slice yA yr.length yc] 44)).heap.size by simp)
      have hlk := (HO.out.iu.below bA).look Tryd.underlying70 (zeroB _) wyu
      obtain ⟨ub, hub⟩ : ∃ ub : Bool, (look yu eu).getD (.bool false) = .bool ub ∧ ((∃ s ∈ ls.take i, s.u = yu) ↔ ub = true) := by
        cases hlo : look yu eu with
        | none =>
          refine ⟨false, rfl, ⟨fun ⟨s, hs, e⟩ => ?_, fun h => by cases h⟩⟩
          have := HO.out.u1 s hs
          rw [e, hlo] at this
          cases this
        | some v =>
          obtain ⟨h1, h2⟩ := HO.out.u2 _ _ hlo
          exact ⟨true, by rw [h1]; rfl, ⟨fun _ => rfl, fun _ => h2⟩⟩
      rw [hub.1] at hlk
      have HUB := Lib.hid hub.2
      clear hc hrd hy hub
      by_cases h1 : yi ≤ last
      · have HBAD := Lib.hid (bad_at (clock := clock) hil (show ¬ okE clock (ls.take i) (ls[i]'hil) from by
          rw [← HY.out]
          rintro ⟨o1, o2, o3, o4, o5, o6, o7, o8⟩
          rcases HO.out.top.2.1 with h | ⟨s, hs, h⟩
          · simp only at o2; omega
          · have := o1 s hs; simp only at this; omega))
        have HBEL := Lib.hid (below_then HO.out.bel HO.out.bel.size bA)
        skip
        go_wp2_with fail
        go_ret2
        exact ⟨HBEL.out, .inr ⟨HBAD.out, rfl⟩⟩
      · by_cases h2 : yu < 1
        · have HBAD := Lib.hid (bad_at (clock := clock) hil (show ¬ okE clock (ls.take i) (ls[i]'hil) from by
            rw [← HY.out]
            rintro ⟨o1, o2, o3, o4, o5, o6, o7, o8⟩
            simp only at o3; omega))
          have HBEL := Lib.hid (below_then HO.out.bel HO.out.bel.size bA)
          skip
          go_wp2_with fail
          go_ret2
          exact ⟨HBEL.out, .inr ⟨HBAD.out, rfl⟩⟩
        · by_cases h3 : clock < yu
          · have HBAD := Lib.hid (bad_at (clock := clock) hil (show ¬ okE clock (ls.take i) (ls[i]'hil) from by
              rw [← HY.out]
              rintro ⟨o1, o2, o3, o4, o5, o6, o7, o8⟩
              simp only at o4; omega))
            have HBEL := Lib.hid (below_then HO.out.bel HO.out.bel.size bA)
            skip
            go_wp2_with fail
            go_ret2
            exact ⟨HBEL.out, .inr ⟨HBAD.out, rfl⟩⟩
          · cases ub with
            | true =>
              have HBAD := Lib.hid (bad_at (clock := clock) hil (show ¬ okE clock (ls.take i) (ls[i]'hil) from by
                rw [← HY.out]
                rintro ⟨o1, o2, o3, o4, o5, o6, o7, o8⟩
                obtain ⟨s, hs, e⟩ := HUB.out.2 rfl
                exact o5 s hs e))
              have HBEL := Lib.hid (below_then HO.out.bel HO.out.bel.size bA)
              skip
              go_wp2_with fail
              go_ret2
              exact ⟨HBEL.out, .inr ⟨HBAD.out, rfl⟩⟩
            | false =>
              skip
              by_cases h5 : yl < 0
              · have HBAD := Lib.hid (bad_at (clock := clock) hil (show ¬ okE clock (ls.take i) (ls[i]'hil) from by
                  rw [← HY.out]
                  rintro ⟨o1, o2, o3, o4, o5, o6, o7, o8⟩
                  simp only at o6; omega))
                have HBEL := Lib.hid (below_then HO.out.bel HO.out.bel.size bA)
                skip
                go_wp2_with fail
                go_ret2
                exact ⟨HBEL.out, .inr ⟨HBAD.out, rfl⟩⟩
              · by_cases h6 : yl = 0
                · have h6b : (yl == 0) = true := by simp [h6]
                  by_cases h6c : (0 : Int) < (yr.length : Int)
                  · have HBAD := Lib.hid (bad_at (clock := clock) hil (show ¬ okE clock (ls.take i) (ls[i]'hil) from by
                      rw [← HY.out]
                      rintro ⟨o1, o2, o3, o4, o5, o6, o7, o8⟩
                      exact o7 ⟨h6, by simp only; omega⟩))
                    have HBEL := Lib.hid (below_then HO.out.bel HO.out.bel.size bA)
                    clear h6
                    go_wp2_with fail
                    go_ret2
                    exact ⟨HBEL.out, .inr ⟨HBAD.out, rfl⟩⟩
                  · have hno6 : ¬ (((⟨yi, yl, yu, yA, yc, yr⟩ : SV).l = 0) ∧ 0 < (⟨yi, yl, yu, yA, yc, yr⟩ : SV).r.length) := fun h => by have := h.2; simp only at this; omega
                    clear h6
                    by_cases h7 : (16384 : Int) < (yr.length : Int)
                    · exact absurd h7 (by omega)
                    · have HOK := Lib.hid (show okE clock (ls.take i) (ls[i]'hil) from by
                        rw [← HY.out]
                        refine ⟨fun s hs => ?_, ?_, by simp only; omega, by simp only; omega, fun s hs e => ?_, by simp only; omega, hno6, by simp only; omega⟩
                        · have := HO.out.top.1 s hs; simp only; omega
                        · have := HO.out.top.2.2; simp only; omega
                        · have := HUB.out.1 ⟨s, hs, e⟩; simp at this)
                      clear hno6
                      go_wp2_with fail
                      refine HC.out.mono ?_
                      rintro e w3 ⟨D2, rfl, od, b3⟩
                      obtain ⟨B2, c2, hD2⟩ := od.one
                      subst hD2
                      have hb3 := (b3.block _ HLT.out).trans HBX.out
                      have k3 : w3.cell? ⟨wr.heap.size, 3, none⟩ = some (.slice yA yr.length yc) := cell_of hb3 3
                      have f3 := frozen_of hb3 3
                      have b03 : Below wr.heap.size wr w3 := below_then bA bA.size b3
                      have b04 : Below wr.heap.size wr (w3.setCell ⟨wr.heap.size, 3, none⟩ (.slice B2 yr.length c2)) := b03.setCell (Nat.le_refl _) _
                      obtain ⟨w4, hw4⟩ : ∃ w4, w4 = w3.setCell ⟨wr.heap.size, 3, none⟩ (.slice B2 yr.length c2) := ⟨_, rfl⟩
                      have hb4 : w4.heap[wr.heap.size]? = some (.cells #[.int .i64 yi, .int .i64 yl, .int .i64 yu, .slice B2 yr.length c2] 44 (0, 0)) := by
                        rw [hw4]; exact heap_setCell_same _ _ 3 _ _ _ hb3
                      have R4 := HO.out.below (by rw [← hw4] at b04; exact b04)
                      have od4 : OD w4 w.heap.size (.slice B2 yr.length c2) yr := by
                        refine (od.step (w' := w4) fun k hk => ?_).lower (by have := HO.out.bel.size; have := bA.size; omega)
                        have := (od.1.lt k hk).1
                        have := HLT.out
                        rw [hw4]; exact heap_setCell_other _ _ _ _ (by simp only; omega)
                      have HW4 := Lib.hid hw4
                      have hlu := R4.lu
                      have hlss := R4.lss
                      have iu4 : IM w4.drew bu eu := R4.iu.step rfl
                      obtain ⟨w5, run5, iu5, g5, z5⟩ := iu4.store Tryd.underlying70 (by unfold maxLen; omega) wyu (.bool true)
                      have ib5 : IM w5 b (sI ss) := (show IM w4.drew b (sI ss) from R4.tb.2.2.2.1.step rfl).mapped hne.out g5
                      obtain ⟨v0, st, w6, run6, g6, z6, hst⟩ := ib5.entry Tryd.underlying60 zeroS (by unfold sI maxLen; simp; omega) wyi
                      obtain ⟨w7, run7, ib7, g7, z7⟩ := hst w6 (.agg #[.int .i64 yi, .int .i64 yl, .int .i64 yu, .slice B2 yr.length c2]) rfl
                      simp only [goInt] at run6 run7
                      have hpc4 := R4.tb.cm
                      have hS4 : w4.drew.cell? ⟨p, 0, none⟩ = some (.map (some b)) ∧ w4.drew.cell? ⟨wr.heap.size, 0, none⟩ = some (.int .i64 yi) ∧ w4.drew.cell? ⟨wr.heap.size, 1, none⟩ = some (.int .i64 yl) ∧ w4.drew.cell? ⟨wr.heap.size, 2, none⟩ = some (.int .i64 yu) ∧ w4.drew.cell? ⟨wr.heap.size, 3, none⟩ = some (.slice B2 yr.length c2) :=
                        ⟨hpc4, cell_of (w := w4.drew) hb4 0, cell_of (w := w4.drew) hb4 1, cell_of (w := w4.drew) hb4 2, cell_of (w := w4.drew) hb4 3⟩
                      have hbx4 : wr.heap.size < w4.heap.size := (Array.getElem?_eq_some_iff.1 hb4).1
                      have hp4 := R4.tb.2.2.1
                      have hp5 := (g5.block p R4.tb.plt (fun e => by
                        obtain ⟨_, _, _, h2, _⟩ := R4.iu
                        rw [← Option.some.inj e, hp4] at h2
                        cases h2)).trans hp4
                      have hb5 := (g5.block wr.heap.size hbx4 (fun e => by have := HO.out.iu.lt; have := Option.some.inj e; omega)).trans hb4
                      have hp6 := (g6.block p (Array.getElem?_eq_some_iff.1 hp5).1 (fun e => R4.tb.ne (Option.some.inj e))).trans hp5
                      have hb6 := (g6.block wr.heap.size (Array.getElem?_eq_some_iff.1 hb5).1 (fun e => by have := HO.out.tb.2.2.2.1.lt; have := Option.some.inj e; omega)).trans hb5
                      have hS5 : w5.cell? ⟨p, 0, none⟩ = some (.map (some b)) ∧ w5.cell? ⟨wr.heap.size, 0, none⟩ = some (.int .i64 yi) ∧ w5.cell? ⟨wr.heap.size, 1, none⟩ = some (.int .i64 yl) ∧ w5.cell? ⟨wr.heap.size, 2, none⟩ = some (.int .i64 yu) ∧ w5.cell? ⟨wr.heap.size, 3, none⟩ = some (.slice B2 yr.length c2) :=
                        ⟨cell_of hp5 0, cell_of hb5 0, cell_of hb5 1, cell_of hb5 2, cell_of hb5 3⟩
                      have hS6 : w6.cell? ⟨p, 0, none⟩ = some (.map (some b)) ∧ w6.cell? ⟨wr.heap.size, 0, none⟩ = some (.int .i64 yi) ∧ w6.cell? ⟨wr.heap.size, 1, none⟩ = some (.int .i64 yl) ∧ w6.cell? ⟨wr.heap.size, 2, none⟩ = some (.int .i64 yu) ∧ w6.cell? ⟨wr.heap.size, 3, none⟩ = some (.slice B2 yr.length c2) :=
                        ⟨cell_of hp6 0, cell_of hb6 0, cell_of hb6 1, cell_of hb6 2, cell_of hb6 3⟩
                      have HN := Lib.hid (show RL w p b bu clock ls w7 (i + 1) yi (putS ⟨yi, yl, yu, B2, c2, yr⟩ ss) (putI yu (.bool true) eu) by
                        have hsucc : ls.take (i + 1) = ls.take i ++ [ls[i]'hil] := List.take_succ_eq_append_getElem hil
                        have g57 : w5.grownBy w7 (some b) := ⟨g7.os.trans g6.os, g7.tape.trans g6.tape, g7.output.trans g6.output, by omega, fun k hk hne => (g7.block k (by omega) hne).trans (g6.block k hk hne)⟩
                        have t5 : TB w5 w.heap.size p b clock ss := (show TB w4.drew w.heap.size p b clock ss from R4.tb.step fun k _ => rfl).mapped iu4 hne.out g5
                        have od5 : OD w5 w.heap.size (.slice B2 yr.length c2) yr := (show OD w4.drew w.heap.size (.slice B2 yr.length c2) yr from od4.step fun k _ => rfl).step fun k hk => g5.block k (od4.1.lt k hk).2 fun e => od_ne_map (w := w4) od4 R4.iu (by rw [hk, e])
                        have hlt : ∀ s ∈ ss, s.i < yi := fun s hs => by
                          have hm : core s ∈ (ls.take i).map core := by rw [← R4.same]; exact List.mem_map.2 ⟨s, hs, rfl⟩
                          obtain ⟨t, ht, hc⟩ := List.mem_map.1 hm
                          have e : t.i = s.i := congrArg (fun x => x.1) hc
                          have h1 := HOK.out.1 t ht
                          rw [← HY.out] at h1
                          simp only at h1
                          omega
                        have hpe : putS ⟨yi, yl, yu, B2, c2, yr⟩ ss = ss ++ [⟨yi, yl, yu, B2, c2, yr⟩] := putS_end hlt
                        have ib7' : IM w7 b (sI (putS ⟨yi, yl, yu, B2, c2, yr⟩ ss)) := by rw [← sI_put]; exact ib7
                        have hYI : (ls[i]'hil).i = yi := by rw [← HY.out]
                        have hYU : (ls[i]'hil).u = yu := by rw [← HY.out]
                        refine ⟨t5.stored ⟨yi, yl, yu, B2, c2, yr⟩ ib7' g57 od5, iu5.mapped (fun e => hne.out e.symm) g57, by have := length_putI_le yu (.bool true) eu; omega, by rw [hpe]; simp [hlss], Good.step R4.good hil HOK.out, ?_, ⟨fun s hs => ?_, .inr ⟨ls[i]'hil, ?_, hYI⟩, ?_⟩, fun s hs => ?_, fun u v hv => ?_, below_mapped (below_mapped (show Below w.heap.size w w4.drew from ⟨R4.bel.os, R4.bel.tape, R4.bel.output, R4.bel.size, R4.bel.block⟩) g5 hbuw.out) g57 hbw⟩
                        · rw [hpe, hsucc, List.map_append, List.map_append, R4.same]
                          simp only [List.map_cons, List.map_nil]
                          rw [← HY.out]
                          rfl
                        · rw [hsucc] at hs
                          rcases List.mem_append.1 hs with hs | hs
                          · have h1 := HOK.out.1 s hs; rw [hYI] at h1; omega
                          · rw [List.mem_singleton.1 hs, hYI]; omega
                        · rw [hsucc]; exact List.mem_append_right _ (List.mem_singleton.2 rfl)
                        · have h1 := HOK.out.2.1; rw [hYI] at h1; omega
                        · rw [hsucc] at hs
                          rcases List.mem_append.1 hs with hs | hs
                          · have hne2 := HOK.out.2.2.2.2.1 s hs
                            rw [hYU] at hne2
                            exact look_put_other iu4.1 hne2 (R4.u1 s hs)
                          · rw [List.mem_singleton.1 hs, hYU]; exact look_put_same iu4.1
                        · have hm := look_some hv
                          rcases mem_insI.1 hm with e | hm
                          · cases e
                            exact ⟨rfl, _, by rw [hsucc]; exact List.mem_append_right _ (List.mem_singleton.2 rfl), hYU⟩
                          · obtain ⟨h1, s, hs, h2⟩ := R4.u2 u v (look_of_mem iu4.1 (mem_delI.1 hm).1)
                            exact ⟨h1, s, by rw [hsucc]; exact List.mem_append_left _ hs, h2⟩)
                      clear hw4 od hb3 b3 b03 b04 hb4 R4 od4 iu4 iu5 g5 z5 ib5 g6 z6 hst ib7 g7 z7 hpc4 hbx4 hp4 hp5 hb5 hp6 hb6 hlu hlss
                      go_wp2_with fail
                      rw [← HW4.out]
                      clear k3 f3
                      refine wp_region_Z (fun w' => w'.cell? ⟨p, 0, none⟩ = some (.map (some b)) ∧ w'.cell? ⟨wr.heap.size, 0, none⟩ = some (.int .i64 yi) ∧ w'.cell? ⟨wr.heap.size, 1, none⟩ = some (.int .i64 yl) ∧ w'.cell? ⟨wr.heap.size, 2, none⟩ = some (.int .i64 yu) ∧ w'.cell? ⟨wr.heap.size, 3, none⟩ = some (.slice B2 yr.length c2)) 16 (by kernel_rfl) hS4 (fun hHeld => ?_)
                      refine wpAnyZ_take (i := 0) (v := ?_) rfl (by kernel_rfl) (by kernel_rfl) (by kernel_rfl) (by kernel_rfl) (by decide) (fun _ _ _ h => h) (by rfl) ?_ (by assumption) ?_
                      rotate_left
                      · (intro w hSw; (try dsimp only at hSw); go_simp) <;> with_reducible rfl
                      try simp only [Act.put, List.getElem_toArray, List.getElem_cons_zero, List.getElem_cons_succ, List.setIfInBounds_toArray, List.set_cons_zero, List.set_cons_succ]
                      refine wpAnyZ_take (i := 1) (v := ?_) rfl (by kernel_rfl) (by kernel_rfl) (by kernel_rfl) (by kernel_rfl) (by decide) (fun _ _ _ h => h) (by rfl) ?_ (by assumption) ?_
                      rotate_left
                      · (intro w hSw; (try dsimp only at hSw); go_simp) <;> with_reducible rfl
                      try simp only [Act.put, List.getElem_toArray, List.getElem_cons_zero, List.getElem_cons_succ, List.setIfInBounds_toArray, List.set_cons_zero, List.set_cons_succ]
                      refine wpAnyZ_take (i := 2) (v := ?_) rfl (by kernel_rfl) (by kernel_rfl) (by kernel_rfl) (by kernel_rfl) (by decide) (fun _ _ _ h => h) (by rfl) ?_ (by assumption) ?_
                      rotate_left
                      · (intro w hSw; (try dsimp only at hSw); go_simp) <;> with_reducible rfl
                      try simp only [Act.put, List.getElem_toArray, List.getElem_cons_zero, List.getElem_cons_succ, List.setIfInBounds_toArray, List.set_cons_zero, List.set_cons_succ]
                      refine wpAnyZ_take (i := 3) (v := ?_) rfl (by kernel_rfl) (by kernel_rfl) (by kernel_rfl) (by kernel_rfl) (by decide) (fun _ _ _ h => h) (by rfl) ?_ (by assumption) ?_
                      rotate_left
                      · (intro w hSw; (try dsimp only at hSw); go_simp) <;> with_reducible rfl
                      try simp only [Act.put, List.getElem_toArray, List.getElem_cons_zero, List.getElem_cons_succ, List.setIfInBounds_toArray, List.set_cons_zero, List.set_cons_succ]
                      refine wpAnyZ_take (i := 4) (v := ?_) rfl (by kernel_rfl) (by kernel_rfl) (by kernel_rfl) (by kernel_rfl) (by decide) (fun _ _ _ h => h) (by rfl) ?_ (by assumption) ?_
                      rotate_left
                      · (intro w hSw; (try dsimp only at hSw); go_simp) <;> with_reducible rfl
                      try simp only [Act.put, List.getElem_toArray, List.getElem_cons_zero, List.getElem_cons_succ, List.setIfInBounds_toArray, List.set_cons_zero, List.set_cons_succ]
                      refine wpAnyZ_take (i := 5) (v := ?_) rfl (by kernel_rfl) (by kernel_rfl) (by kernel_rfl) (by kernel_rfl) (by decide) (fun _ _ _ h => h) (by rfl) ?_ (by assumption) ?_
                      rotate_left
                      · (intro w hSw; (try dsimp only at hSw); go_simp) <;> with_reducible rfl
                      try simp only [Act.put, List.getElem_toArray, List.getElem_cons_zero, List.getElem_cons_succ, List.setIfInBounds_toArray, List.set_cons_zero, List.set_cons_succ]
                      refine wpAnyZ_take (i := 6) (v := ?_) rfl (by kernel_rfl) (by kernel_rfl) (by kernel_rfl) (by kernel_rfl) (by decide) (fun _ _ _ h => h) (by rfl) ?_ (by assumption) ?_
                      rotate_left
                      · (intro w hSw; (try dsimp only at hSw); go_simp) <;> with_reducible rfl
                      try simp only [Act.put, List.getElem_toArray, List.getElem_cons_zero, List.getElem_cons_succ, List.setIfInBounds_toArray, List.set_cons_zero, List.set_cons_succ]
                      refine wpAnyZ_take (i := 7) (v := ?_) rfl (by kernel_rfl) (by kernel_rfl) (by kernel_rfl) (by kernel_rfl) (by decide) (fun _ _ _ h => h) (by rfl) ?_ (by assumption) ?_
                      rotate_left
                      · (intro w hSw; (try dsimp only at hSw); go_simp) <;> with_reducible rfl
                      try simp only [Act.put, List.getElem_toArray, List.getElem_cons_zero, List.getElem_cons_succ, List.setIfInBounds_toArray, List.set_cons_zero, List.set_cons_succ]
                      refine wpAnyZ_take (i := 8) (v := ?_) rfl (by kernel_rfl) (by kernel_rfl) (by kernel_rfl) (by kernel_rfl) (by decide) (fun _ _ _ h => h) (by rfl) ?_ (by assumption) ?_
                      rotate_left
                      · (intro w hSw; (try dsimp only at hSw); go_simp) <;> with_reducible rfl
                      try simp only [Act.put, List.getElem_toArray, List.getElem_cons_zero, List.getElem_cons_succ, List.setIfInBounds_toArray, List.set_cons_zero, List.set_cons_succ]
                      refine wpAnyZ_take (i := 9) (v := ?_) rfl (by kernel_rfl) (by kernel_rfl) (by kernel_rfl) (by kernel_rfl) (by decide) (fun _ _ _ h => h) (by rfl) ?_ (by assumption) ?_
                      rotate_left
                      · (intro w hSw; (try dsimp only at hSw); go_simp) <;> with_reducible rfl
                      try simp only [Act.put, List.getElem_toArray, List.getElem_cons_zero, List.getElem_cons_succ, List.setIfInBounds_toArray, List.set_cons_zero, List.set_cons_succ]
                      refine wpAnyZ_take (i := 10) (v := ?_) rfl (by kernel_rfl) (by kernel_rfl) (by kernel_rfl) (by kernel_rfl) (by decide) (fun _ _ _ h => h) (by rfl) ?_ (by assumption) ?_
                      rotate_left
                      · (intro w hSw; (try dsimp only at hSw); go_simp) <;> with_reducible rfl
                      try simp only [Act.put, List.getElem_toArray, List.getElem_cons_zero, List.getElem_cons_succ, List.setIfInBounds_toArray, List.set_cons_zero, List.set_cons_succ]
                      refine wpAnyZ_take (i := 11) (v := ?_) rfl (by kernel_rfl) (by kernel_rfl) (by kernel_rfl) (by kernel_rfl) (by decide) (fun _ _ _ h => h) (by rfl) ?_ (by assumption) ?_
                      rotate_left
                      · (intro w hSw; (try dsimp only at hSw); go_simp) <;> with_reducible rfl
                      try simp only [Act.put, List.getElem_toArray, List.getElem_cons_zero, List.getElem_cons_succ, List.setIfInBounds_toArray, List.set_cons_zero, List.set_cons_succ]
                      refine wpAnyZ_take (i := 12) (v := ?_) rfl (by kernel_rfl) (by kernel_rfl) (by kernel_rfl) (by kernel_rfl) (by decide) (fun _ _ _ h => h) (by rfl) ?_ (by assumption) ?_
                      rotate_left
                      · (intro w hSw; (try dsimp only at hSw); go_simp) <;> with_reducible rfl
                      try simp only [Act.put, List.getElem_toArray, List.getElem_cons_zero, List.getElem_cons_succ, List.setIfInBounds_toArray, List.set_cons_zero, List.set_cons_succ]
                      refine wpAnyZ_step (i := 13) rfl (by kernel_rfl) (fun K hK => ?_)
                      go_simp
                      refine hK.out _ _ (fun _ => hS5) ?_
                      clear hK K
                      try simp only [Act.put, List.getElem_toArray, List.getElem_cons_zero, List.getElem_cons_succ, List.setIfInBounds_toArray, List.set_cons_zero, List.set_cons_succ]
                      refine wpAnyZ_step (i := 14) rfl (by kernel_rfl) (fun K hK => ?_)
                      go_simp
                      refine hK.out _ _ (fun _ => hS6) ?_
                      clear hK K
                      try simp only [Act.put, List.getElem_toArray, List.getElem_cons_zero, List.getElem_cons_succ, List.setIfInBounds_toArray, List.set_cons_zero, List.set_cons_succ]
                      refine wpAnyZ_take (i := 15) (v := ?_) rfl (by kernel_rfl) (by kernel_rfl) (by kernel_rfl) (by kernel_rfl) (by decide) (fun _ _ _ h => h) (by rfl) ?_ (by assumption) ?_
                      rotate_left
                      · (intro w hSw; (try dsimp only at hSw); go_simp) <;> with_reducible rfl
                      try simp only [Act.put, List.getElem_toArray, List.getElem_cons_zero, List.getElem_cons_succ, List.setIfInBounds_toArray, List.set_cons_zero, List.set_cons_succ]
                      refine wpAnyZ_step (i := 16) rfl (by kernel_rfl) (fun K hK => ?_)
                      go_simp
                      refine hK.out _ _ (fun h => absurd rfl h) ?_
                      clear hK K
                      try simp only [Act.put, List.getElem_toArray, List.getElem_cons_zero, List.getElem_cons_succ, List.setIfInBounds_toArray, List.set_cons_zero, List.set_cons_succ]
                      refine wpAnyZ_done (by kernel_rfl) ?_
                      refine NoPanic.normal ?_
                      go_wp2_with fail
                      go_roundg (n - (i + 1))
                      case measure => omega
                      case rel => exact ⟨i + 1, _, _, _, rfl, by omega, by go_num, rfl, HN.out⟩
                · have h6b : (yl == 0) = false := by simp [h6]
                  have hno6 : ¬ (((⟨yi, yl, yu, yA, yc, yr⟩ : SV).l = 0) ∧ 0 < (⟨yi, yl, yu, yA, yc, yr⟩ : SV).r.length) := fun h => h6 h.1
                  by_cases h7 : (16384 : Int) < (yr.length : Int)
                  · have HBAD := Lib.hid (bad_at (clock := clock) hil (show ¬ okE clock (ls.take i) (ls[i]'hil) from by
                      rw [← HY.out]
                      rintro ⟨o1, o2, o3, o4, o5, o6, o7, o8⟩
                      simp only at o8; omega))
                    have HBEL := Lib.hid (below_then HO.out.bel HO.out.bel.size bA)
                    skip
                    go_wp2_with fail
                    go_ret2
                    exact ⟨HBEL.out, .inr ⟨HBAD.out, rfl⟩⟩
                  · have HOK := Lib.hid (show okE clock (ls.take i) (ls[i]'hil) from by
                      rw [← HY.out]
                      refine ⟨fun s hs => ?_, ?_, by simp only; omega, by simp only; omega, fun s hs e => ?_, by simp only; omega, hno6, by simp only; omega⟩
                      · have := HO.out.top.1 s hs; simp only; omega
                      · have := HO.out.top.2.2; simp only; omega
                      · have := HUB.out.1 ⟨s, hs, e⟩; simp at this)
                    clear hno6
                    go_wp2_with fail
                    refine HC.out.mono ?_
                    rintro e w3 ⟨D2, rfl, od, b3⟩
                    obtain ⟨B2, c2, hD2⟩ := od.one
                    subst hD2
                    have hb3 := (b3.block _ HLT.out).trans HBX.out
                    have k3 : w3.cell? ⟨wr.heap.size, 3, none⟩ = some (.slice yA yr.length yc) := cell_of hb3 3
                    have f3 := frozen_of hb3 3
                    have b03 : Below wr.heap.size wr w3 := below_then bA bA.size b3
                    have b04 : Below wr.heap.size wr (w3.setCell ⟨wr.heap.size, 3, none⟩ (.slice B2 yr.length c2)) := b03.setCell (Nat.le_refl _) _
                    obtain ⟨w4, hw4⟩ : ∃ w4, w4 = w3.setCell ⟨wr.heap.size, 3, none⟩ (.slice B2 yr.length c2) := ⟨_, rfl⟩
                    have hb4 : w4.heap[wr.heap.size]? = some (.cells #[.int .i64 yi, .int .i64 yl, .int .i64 yu, .slice B2 yr.length c2] 44 (0, 0)) := by
                      rw [hw4]; exact heap_setCell_same _ _ 3 _ _ _ hb3
                    have R4 := HO.out.below (by rw [← hw4] at b04; exact b04)
                    have od4 : OD w4 w.heap.size (.slice B2 yr.length c2) yr := by
                      refine (od.step (w' := w4) fun k hk => ?_).lower (by have := HO.out.bel.size; have := bA.size; omega)
                      have := (od.1.lt k hk).1
                      have := HLT.out
                      rw [hw4]; exact heap_setCell_other _ _ _ _ (by simp only; omega)
                    have HW4 := Lib.hid hw4
                    have hlu := R4.lu
                    have hlss := R4.lss
                    have iu4 : IM w4.drew bu eu := R4.iu.step rfl
                    obtain ⟨w5, run5, iu5, g5, z5⟩ := iu4.store Tryd.underlying70 (by unfold maxLen; omega) wyu (.bool true)
                    have ib5 : IM w5 b (sI ss) := (show IM w4.drew b (sI ss) from R4.tb.2.2.2.1.step rfl).mapped hne.out g5
                    obtain ⟨v0, st, w6, run6, g6, z6, hst⟩ := ib5.entry Tryd.underlying60 zeroS (by unfold sI maxLen; simp; omega) wyi
                    obtain ⟨w7, run7, ib7, g7, z7⟩ := hst w6 (.agg #[.int .i64 yi, .int .i64 yl, .int .i64 yu, .slice B2 yr.length c2]) rfl
                    simp only [goInt] at run6 run7
                    have hpc4 := R4.tb.cm
                    have hS4 : w4.drew.cell? ⟨p, 0, none⟩ = some (.map (some b)) ∧ w4.drew.cell? ⟨wr.heap.size, 0, none⟩ = some (.int .i64 yi) ∧ w4.drew.cell? ⟨wr.heap.size, 1, none⟩ = some (.int .i64 yl) ∧ w4.drew.cell? ⟨wr.heap.size, 2, none⟩ = some (.int .i64 yu) ∧ w4.drew.cell? ⟨wr.heap.size, 3, none⟩ = some (.slice B2 yr.length c2) :=
                      ⟨hpc4, cell_of (w := w4.drew) hb4 0, cell_of (w := w4.drew) hb4 1, cell_of (w := w4.drew) hb4 2, cell_of (w := w4.drew) hb4 3⟩
                    have hbx4 : wr.heap.size < w4.heap.size := (Array.getElem?_eq_some_iff.1 hb4).1
                    have hp4 := R4.tb.2.2.1
                    have hp5 := (g5.block p R4.tb.plt (fun e => by
                      obtain ⟨_, _, _, h2, _⟩ := R4.iu
                      rw [← Option.some.inj e, hp4] at h2
                      cases h2)).trans hp4
                    have hb5 := (g5.block wr.heap.size hbx4 (fun e => by have := HO.out.iu.lt; have := Option.some.inj e; omega)).trans hb4
                    have hp6 := (g6.block p (Array.getElem?_eq_some_iff.1 hp5).1 (fun e => R4.tb.ne (Option.some.inj e))).trans hp5
                    have hb6 := (g6.block wr.heap.size (Array.getElem?_eq_some_iff.1 hb5).1 (fun e => by have := HO.out.tb.2.2.2.1.lt; have := Option.some.inj e; omega)).trans hb5
                    have hS5 : w5.cell? ⟨p, 0, none⟩ = some (.map (some b)) ∧ w5.cell? ⟨wr.heap.size, 0, none⟩ = some (.int .i64 yi) ∧ w5.cell? ⟨wr.heap.size, 1, none⟩ = some (.int .i64 yl) ∧ w5.cell? ⟨wr.heap.size, 2, none⟩ = some (.int .i64 yu) ∧ w5.cell? ⟨wr.heap.size, 3, none⟩ = some (.slice B2 yr.length c2) :=
                      ⟨cell_of hp5 0, cell_of hb5 0, cell_of hb5 1, cell_of hb5 2, cell_of hb5 3⟩
                    have hS6 : w6.cell? ⟨p, 0, none⟩ = some (.map (some b)) ∧ w6.cell? ⟨wr.heap.size, 0, none⟩ = some (.int .i64 yi) ∧ w6.cell? ⟨wr.heap.size, 1, none⟩ = some (.int .i64 yl) ∧ w6.cell? ⟨wr.heap.size, 2, none⟩ = some (.int .i64 yu) ∧ w6.cell? ⟨wr.heap.size, 3, none⟩ = some (.slice B2 yr.length c2) :=
                      ⟨cell_of hp6 0, cell_of hb6 0, cell_of hb6 1, cell_of hb6 2, cell_of hb6 3⟩
                    have HN := Lib.hid (show RL w p b bu clock ls w7 (i + 1) yi (putS ⟨yi, yl, yu, B2, c2, yr⟩ ss) (putI yu (.bool true) eu) by
                      have hsucc : ls.take (i + 1) = ls.take i ++ [ls[i]'hil] := List.take_succ_eq_append_getElem hil
                      have g57 : w5.grownBy w7 (some b) := ⟨g7.os.trans g6.os, g7.tape.trans g6.tape, g7.output.trans g6.output, by omega, fun k hk hne => (g7.block k (by omega) hne).trans (g6.block k hk hne)⟩
                      have t5 : TB w5 w.heap.size p b clock ss := (show TB w4.drew w.heap.size p b clock ss from R4.tb.step fun k _ => rfl).mapped iu4 hne.out g5
                      have od5 : OD w5 w.heap.size (.slice B2 yr.length c2) yr := (show OD w4.drew w.heap.size (.slice B2 yr.length c2) yr from od4.step fun k _ => rfl).step fun k hk => g5.block k (od4.1.lt k hk).2 fun e => od_ne_map (w := w4) od4 R4.iu (by rw [hk, e])
                      have hlt : ∀ s ∈ ss, s.i < yi := fun s hs => by
                        have hm : core s ∈ (ls.take i).map core := by rw [← R4.same]; exact List.mem_map.2 ⟨s, hs, rfl⟩
                        obtain ⟨t, ht, hc⟩ := List.mem_map.1 hm
                        have e : t.i = s.i := congrArg (fun x => x.1) hc
                        have h1 := HOK.out.1 t ht
                        rw [← HY.out] at h1
                        simp only at h1
                        omega
                      have hpe : putS ⟨yi, yl, yu, B2, c2, yr⟩ ss = ss ++ [⟨yi, yl, yu, B2, c2, yr⟩] := putS_end hlt
                      have ib7' : IM w7 b (sI (putS ⟨yi, yl, yu, B2, c2, yr⟩ ss)) := by rw [← sI_put]; exact ib7
                      have hYI : (ls[i]'hil).i = yi := by rw [← HY.out]
                      have hYU : (ls[i]'hil).u = yu := by rw [← HY.out]
                      refine ⟨t5.stored ⟨yi, yl, yu, B2, c2, yr⟩ ib7' g57 od5, iu5.mapped (fun e => hne.out e.symm) g57, by have := length_putI_le yu (.bool true) eu; omega, by rw [hpe]; simp [hlss], Good.step R4.good hil HOK.out, ?_, ⟨fun s hs => ?_, .inr ⟨ls[i]'hil, ?_, hYI⟩, ?_⟩, fun s hs => ?_, fun u v hv => ?_, below_mapped (below_mapped (show Below w.heap.size w w4.drew from ⟨R4.bel.os, R4.bel.tape, R4.bel.output, R4.bel.size, R4.bel.block⟩) g5 hbuw.out) g57 hbw⟩
                      · rw [hpe, hsucc, List.map_append, List.map_append, R4.same]
                        simp only [List.map_cons, List.map_nil]
                        rw [← HY.out]
                        rfl
                      · rw [hsucc] at hs
                        rcases List.mem_append.1 hs with hs | hs
                        · have h1 := HOK.out.1 s hs; rw [hYI] at h1; omega
                        · rw [List.mem_singleton.1 hs, hYI]; omega
                      · rw [hsucc]; exact List.mem_append_right _ (List.mem_singleton.2 rfl)
                      · have h1 := HOK.out.2.1; rw [hYI] at h1; omega
                      · rw [hsucc] at hs
                        rcases List.mem_append.1 hs with hs | hs
                        · have hne2 := HOK.out.2.2.2.2.1 s hs
                          rw [hYU] at hne2
                          exact look_put_other iu4.1 hne2 (R4.u1 s hs)
                        · rw [List.mem_singleton.1 hs, hYU]; exact look_put_same iu4.1
                      · have hm := look_some hv
                        rcases mem_insI.1 hm with e | hm
                        · cases e
                          exact ⟨rfl, _, by rw [hsucc]; exact List.mem_append_right _ (List.mem_singleton.2 rfl), hYU⟩
                        · obtain ⟨h1, s, hs, h2⟩ := R4.u2 u v (look_of_mem iu4.1 (mem_delI.1 hm).1)
                          exact ⟨h1, s, by rw [hsucc]; exact List.mem_append_left _ hs, h2⟩)
                    clear hw4 od hb3 b3 b03 b04 hb4 R4 od4 iu4 iu5 g5 z5 ib5 g6 z6 hst ib7 g7 z7 hpc4 hbx4 hp4 hp5 hb5 hp6 hb6 hlu hlss
                    go_wp2_with fail
                    rw [← HW4.out]
                    clear k3 f3
                    refine wp_region_Z (fun w' => w'.cell? ⟨p, 0, none⟩ = some (.map (some b)) ∧ w'.cell? ⟨wr.heap.size, 0, none⟩ = some (.int .i64 yi) ∧ w'.cell? ⟨wr.heap.size, 1, none⟩ = some (.int .i64 yl) ∧ w'.cell? ⟨wr.heap.size, 2, none⟩ = some (.int .i64 yu) ∧ w'.cell? ⟨wr.heap.size, 3, none⟩ = some (.slice B2 yr.length c2)) 16 (by kernel_rfl) hS4 (fun hHeld => ?_)
                    refine wpAnyZ_take (i := 0) (v := ?_) rfl (by kernel_rfl) (by kernel_rfl) (by kernel_rfl) (by kernel_rfl) (by decide) (fun _ _ _ h => h) (by rfl) ?_ (by assumption) ?_
                    rotate_left
                    · (intro w hSw; (try dsimp only at hSw); go_simp) <;> with_reducible rfl
                    try simp only [Act.put, List.getElem_toArray, List.getElem_cons_zero, List.getElem_cons_succ, List.setIfInBounds_toArray, List.set_cons_zero, List.set_cons_succ]
                    refine wpAnyZ_take (i := 1) (v := ?_) rfl (by kernel_rfl) (by kernel_rfl) (by kernel_rfl) (by kernel_rfl) (by decide) (fun _ _ _ h => h) (by rfl) ?_ (by assumption) ?_
                    rotate_left
                    · (intro w hSw; (try dsimp only at hSw); go_simp) <;> with_reducible rfl
                    try simp only [Act.put, List.getElem_toArray, List.getElem_cons_zero, List.getElem_cons_succ, List.setIfInBounds_toArray, List.set_cons_zero, List.set_cons_succ]
                    refine wpAnyZ_take (i := 2) (v := ?_) rfl (by kernel_rfl) (by kernel_rfl) (by kernel_rfl) (by kernel_rfl) (by decide) (fun _ _ _ h => h) (by rfl) ?_ (by assumption) ?_
                    rotate_left
                    · (intro w hSw; (try dsimp only at hSw); go_simp) <;> with_reducible rfl
                    try simp only [Act.put, List.getElem_toArray, List.getElem_cons_zero, List.getElem_cons_succ, List.setIfInBounds_toArray, List.set_cons_zero, List.set_cons_succ]
                    refine wpAnyZ_take (i := 3) (v := ?_) rfl (by kernel_rfl) (by kernel_rfl) (by kernel_rfl) (by kernel_rfl) (by decide) (fun _ _ _ h => h) (by rfl) ?_ (by assumption) ?_
                    rotate_left
                    · (intro w hSw; (try dsimp only at hSw); go_simp) <;> with_reducible rfl
                    try simp only [Act.put, List.getElem_toArray, List.getElem_cons_zero, List.getElem_cons_succ, List.setIfInBounds_toArray, List.set_cons_zero, List.set_cons_succ]
                    refine wpAnyZ_take (i := 4) (v := ?_) rfl (by kernel_rfl) (by kernel_rfl) (by kernel_rfl) (by kernel_rfl) (by decide) (fun _ _ _ h => h) (by rfl) ?_ (by assumption) ?_
                    rotate_left
                    · (intro w hSw; (try dsimp only at hSw); go_simp) <;> with_reducible rfl
                    try simp only [Act.put, List.getElem_toArray, List.getElem_cons_zero, List.getElem_cons_succ, List.setIfInBounds_toArray, List.set_cons_zero, List.set_cons_succ]
                    refine wpAnyZ_take (i := 5) (v := ?_) rfl (by kernel_rfl) (by kernel_rfl) (by kernel_rfl) (by kernel_rfl) (by decide) (fun _ _ _ h => h) (by rfl) ?_ (by assumption) ?_
                    rotate_left
                    · (intro w hSw; (try dsimp only at hSw); go_simp) <;> with_reducible rfl
                    try simp only [Act.put, List.getElem_toArray, List.getElem_cons_zero, List.getElem_cons_succ, List.setIfInBounds_toArray, List.set_cons_zero, List.set_cons_succ]
                    refine wpAnyZ_take (i := 6) (v := ?_) rfl (by kernel_rfl) (by kernel_rfl) (by kernel_rfl) (by kernel_rfl) (by decide) (fun _ _ _ h => h) (by rfl) ?_ (by assumption) ?_
                    rotate_left
                    · (intro w hSw; (try dsimp only at hSw); go_simp) <;> with_reducible rfl
                    try simp only [Act.put, List.getElem_toArray, List.getElem_cons_zero, List.getElem_cons_succ, List.setIfInBounds_toArray, List.set_cons_zero, List.set_cons_succ]
                    refine wpAnyZ_take (i := 7) (v := ?_) rfl (by kernel_rfl) (by kernel_rfl) (by kernel_rfl) (by kernel_rfl) (by decide) (fun _ _ _ h => h) (by rfl) ?_ (by assumption) ?_
                    rotate_left
                    · (intro w hSw; (try dsimp only at hSw); go_simp) <;> with_reducible rfl
                    try simp only [Act.put, List.getElem_toArray, List.getElem_cons_zero, List.getElem_cons_succ, List.setIfInBounds_toArray, List.set_cons_zero, List.set_cons_succ]
                    refine wpAnyZ_take (i := 8) (v := ?_) rfl (by kernel_rfl) (by kernel_rfl) (by kernel_rfl) (by kernel_rfl) (by decide) (fun _ _ _ h => h) (by rfl) ?_ (by assumption) ?_
                    rotate_left
                    · (intro w hSw; (try dsimp only at hSw); go_simp) <;> with_reducible rfl
                    try simp only [Act.put, List.getElem_toArray, List.getElem_cons_zero, List.getElem_cons_succ, List.setIfInBounds_toArray, List.set_cons_zero, List.set_cons_succ]
                    refine wpAnyZ_take (i := 9) (v := ?_) rfl (by kernel_rfl) (by kernel_rfl) (by kernel_rfl) (by kernel_rfl) (by decide) (fun _ _ _ h => h) (by rfl) ?_ (by assumption) ?_
                    rotate_left
                    · (intro w hSw; (try dsimp only at hSw); go_simp) <;> with_reducible rfl
                    try simp only [Act.put, List.getElem_toArray, List.getElem_cons_zero, List.getElem_cons_succ, List.setIfInBounds_toArray, List.set_cons_zero, List.set_cons_succ]
                    refine wpAnyZ_take (i := 10) (v := ?_) rfl (by kernel_rfl) (by kernel_rfl) (by kernel_rfl) (by kernel_rfl) (by decide) (fun _ _ _ h => h) (by rfl) ?_ (by assumption) ?_
                    rotate_left
                    · (intro w hSw; (try dsimp only at hSw); go_simp) <;> with_reducible rfl
                    try simp only [Act.put, List.getElem_toArray, List.getElem_cons_zero, List.getElem_cons_succ, List.setIfInBounds_toArray, List.set_cons_zero, List.set_cons_succ]
                    refine wpAnyZ_take (i := 11) (v := ?_) rfl (by kernel_rfl) (by kernel_rfl) (by kernel_rfl) (by kernel_rfl) (by decide) (fun _ _ _ h => h) (by rfl) ?_ (by assumption) ?_
                    rotate_left
                    · (intro w hSw; (try dsimp only at hSw); go_simp) <;> with_reducible rfl
                    try simp only [Act.put, List.getElem_toArray, List.getElem_cons_zero, List.getElem_cons_succ, List.setIfInBounds_toArray, List.set_cons_zero, List.set_cons_succ]
                    refine wpAnyZ_take (i := 12) (v := ?_) rfl (by kernel_rfl) (by kernel_rfl) (by kernel_rfl) (by kernel_rfl) (by decide) (fun _ _ _ h => h) (by rfl) ?_ (by assumption) ?_
                    rotate_left
                    · (intro w hSw; (try dsimp only at hSw); go_simp) <;> with_reducible rfl
                    try simp only [Act.put, List.getElem_toArray, List.getElem_cons_zero, List.getElem_cons_succ, List.setIfInBounds_toArray, List.set_cons_zero, List.set_cons_succ]
                    refine wpAnyZ_step (i := 13) rfl (by kernel_rfl) (fun K hK => ?_)
                    go_simp
                    refine hK.out _ _ (fun _ => hS5) ?_
                    clear hK K
                    try simp only [Act.put, List.getElem_toArray, List.getElem_cons_zero, List.getElem_cons_succ, List.setIfInBounds_toArray, List.set_cons_zero, List.set_cons_succ]
                    refine wpAnyZ_step (i := 14) rfl (by kernel_rfl) (fun K hK => ?_)
                    go_simp
                    refine hK.out _ _ (fun _ => hS6) ?_
                    clear hK K
                    try simp only [Act.put, List.getElem_toArray, List.getElem_cons_zero, List.getElem_cons_succ, List.setIfInBounds_toArray, List.set_cons_zero, List.set_cons_succ]
                    refine wpAnyZ_take (i := 15) (v := ?_) rfl (by kernel_rfl) (by kernel_rfl) (by kernel_rfl) (by kernel_rfl) (by decide) (fun _ _ _ h => h) (by rfl) ?_ (by assumption) ?_
                    rotate_left
                    · (intro w hSw; (try dsimp only at hSw); go_simp) <;> with_reducible rfl
                    try simp only [Act.put, List.getElem_toArray, List.getElem_cons_zero, List.getElem_cons_succ, List.setIfInBounds_toArray, List.set_cons_zero, List.set_cons_succ]
                    refine wpAnyZ_step (i := 16) rfl (by kernel_rfl) (fun K hK => ?_)
                    go_simp
                    refine hK.out _ _ (fun h => absurd rfl h) ?_
                    clear hK K
                    try simp only [Act.put, List.getElem_toArray, List.getElem_cons_zero, List.getElem_cons_succ, List.setIfInBounds_toArray, List.set_cons_zero, List.set_cons_succ]
                    refine wpAnyZ_done (by kernel_rfl) ?_
                    refine NoPanic.normal ?_
                    go_wp2_with fail
                    go_roundg (n - (i + 1))
                    case measure => omega
                    case rel => exact ⟨i + 1, _, _, _, rfl, by omega, by go_num, rfl, HN.out⟩
    · obtain rfl : i = n := by omega
      have hin1 : ¬ (i : Int) < (i : Int) := by omega
      have htk : ls.take i = ls := List.take_of_length_le (by rw [HL.out]; omega)
      have HG := Lib.hid (show Good clock ls by have := HO.out.good; rwa [htk] at this)
      have HSM := Lib.hid (show ss.map core = ls.map core by have := HO.out.same; rwa [htk] at this)
      clear htk hin
      by_cases h1 : clock < 0
      · have hb : ¬ restOK clock ls := fun h => by have := h.2.1; omega
        have HB := Lib.hid hb
        clear hb
        go_wp2_with fail
        go_ret2
        exact ⟨HO.out.bel, .inr ⟨HB.out, rfl⟩⟩
      · by_cases h2 : (4611686018427387904 : Int) < clock
        · have hb : ¬ restOK clock ls := fun h => by have := h.2.2.1; omega
          have HB := Lib.hid hb
          clear hb
          go_wp2_with fail
          go_ret2
          exact ⟨HO.out.bel, .inr ⟨HB.out, rfl⟩⟩
        · by_cases h3 : (8 : Int) < (i : Int)
          · have hb : ¬ restOK clock ls := fun h => by have := h.2.2.2; rw [HL.out] at this; omega
            have HB := Lib.hid hb
            clear hb
            go_wp2_with fail
            go_ret2
            exact ⟨HO.out.bel, .inr ⟨HB.out, rfl⟩⟩
          · have hb : restOK clock ls := ⟨HG.out, by omega, by omega, by rw [HL.out]; omega⟩
            have HB := Lib.hid hb
            clear hb
            go_wp2_with fail
            go_ret2
            exact ⟨HO.out.bel, .inl ⟨HB.out, p, b, ss, rfl, HO.out.tb, HSM.out⟩⟩
end Go.Proofs.YtbdokphemdkhmaaDoor
