/- muntinref16.Table: Open. -/
import Derived.Test.YtbdokphemdkhmaaDoorSRef2
set_option linter.unusedVariables false
set_option linter.unusedSimpArgs false
namespace Go.Proofs.YtbdokphemdkhmaaDoor
open Go.RowKit

theorem RT.reclock {w : World} {base q : Nat} {v : Value} {clock : Int} {ls : List SV} (h : RT w base q v clock ls) (c : Int) : RT (w.setCell ⟨q, 1, none⟩ (.int .i64 c)) base q v c ls := by
  refine ⟨h.1, ?_, own_step h.2.2.1 fun k hk => heap_setCell_other _ _ _ _ fun e => row_ne h.2.2.1 h.2.1 (by decide) (by rw [hk, e]), fun s hs => (h.2.2.2 s hs).step fun k hk => heap_setCell_other _ _ _ _ fun e => od_ne (h.2.2.2 s hs) h.2.1 (by decide) (by rw [hk, e])⟩
  rw [heap_setCell_same _ _ _ _ _ _ h.2.1]; rfl
theorem insS_at {x : SV} : ∀ {ls : List SV} {k : Nat}, risS ls → k ≤ ls.length → (∀ j (h : j < ls.length), j < k → ls[j].i < x.i) → (∀ h : k < ls.length, x.i < ls[k].i) → insS x ls = ls.take k ++ [x] ++ ls.drop k
  | [], k, _, hk, _, _ => by
    have : k = 0 := by simpa using hk
    subst this
    rfl
  | y :: r, 0, _, _, _, h2 => by
    have := h2 (by simp)
    simp only [List.getElem_cons_zero] at this
    simp [insS, this]
  | y :: r, k + 1, hr, hk, h1, h2 => by
    have hy := h1 0 (by simp) (by omega)
    simp only [List.getElem_cons_zero] at hy
    simp only [insS]
    rw [if_neg (by omega), insS_at (List.pairwise_cons.1 hr).2 (by simpa using hk) (fun j h hj => by have := h1 (j + 1) (by simpa using h) (by omega); simpa using this) (fun h => by have := h2 (by simpa using h); simpa using this)]
    simp
theorem put_new {x : SV} {ls : List SV} (h : ∀ s ∈ ls, s.i ≠ x.i) : putS x ls = insS x ls := by
  unfold putS
  rw [delS_none h]
/-- what the reference's Open tells -/
def goneR (ls : List SV) (x : Int) : Int := if openE ls x = 0 then goneI ls else 0
theorem goneR_ne {ls : List SV} {x : Int} (h : openE ls x ≠ 0) : goneR ls x = 0 := if_neg h
theorem goneR_ok {ls : List SV} {x : Int} (h : openE ls x = 0) : goneR ls x = goneI ls := if_pos h
/-- what the reference's Open leaves -/
def ROpenP (clock : Int) (ls : List SV) (x : Int) (clock' : Int) (ls' : List SV) : Prop :=
  (openE ls x ≠ 0 ∧ clock' = clock ∧ ls' = ls) ∨ (openE ls x = 0 ∧ clock' = clock + 1 ∧ ls' = putS ⟨x, 0, clock + 1, none, 0, []⟩ (dropS ls))

/-- Open's own end, behind what was dropped -/
def PutP (w : World) (base q : Nat) (v : Value) (clock : Int) (ls : List SV) (x gone : Int) (e : Ending) (w' : World) : Prop :=
  e = .returned (.tuple #[.int .i64 gone, .int .i64 0]) ∧ ∃ v', RT w' base q v' (clock + 1) (insS ⟨x, 0, clock + 1, none, 0, []⟩ ls) ∧ Frm (RTk q v) w w' ∧ ∀ k, v'.ownBlock = some k → w.heap.size ≤ k

set_option maxRecDepth 100000 in
set_option maxHeartbeats 4000000 in
theorem ropen_any (base q : Nat) (v : Value) (clock : Int) (ls : List SV) (x : Int) (w : World) (t : RT w base q v clock ls) (hb : base ≤ w.heap.size) (inv : Inv clock ls) (hc1 : clock ≤ 4611686018427400000) :
    Calls Tryd.prog 29 #[.pointer (some ⟨q, 0, none⟩), .int .i64 x] w fun e w' => ∃ v' clock' ls', e = .returned (.tuple #[.int .i64 (goneR ls x), .int .i64 (openE ls x)]) ∧ RT w' base q v' clock' ls' ∧ ROpenP clock ls x clock' ls' ∧ Frm (RTk q v) w w' ∧ ∀ k, v'.ownBlock = some k → v.ownBlock = some k ∨ w.heap.size ≤ k := by
  have T := Lib.hid t
  have IV := Lib.hid inv
  have HF := Lib.hid (rfind_any base q v clock ls x w t inv.ris (by have := inv.len; omega))
  obtain ⟨A, c, hv, -, -⟩ := t.shape
  subst hv
  have c0 := t.c0
  clear t inv
  by_cases hx : x < 1
  · have e1 : openE ls x = 1 := by simp [openE, hx]
    have HE := Lib.hid e1
    clear e1
    go_enter Tryd.func29, Tryd.ntmps29
    go_wp2_with fail
    go_ret2
    exact ⟨_, clock, ls, by rw [goneR_ne (by rw [HE.out]; decide), HE.out]; rfl, T.out, .inl ⟨by rw [HE.out]; decide, rfl, rfl⟩, Frm.refl _ _, fun k hk => .inl hk⟩
  · go_enter Tryd.func29, Tryd.ntmps29
    go_wp2_with fail
    refine HF.out.mono ?_
    rintro e w1 ⟨rfl, ⟨rfl, hf⟩ | ⟨k, hk, rfl, hf⟩⟩
    · have HE := Lib.hid (show openE ls x = 0 by simp [openE, hx, hf])
      have HFN := Lib.hid hf
      clear hf
      by_cases h8 : ls.length = 8
      · have h8b : ((ls.length : Int) == 8) = true := by rw [h8]; rfl
        have HD := Lib.hid (rdrop_any base q _ clock ls w1 T.out hb IV.out.ris (by omega) (by omega))
        have HGN := Lib.hid (show goneI ls = (minS ls).i by simp [goneI, h8])
        have HDS := Lib.hid (show dropS ls = delS (minS ls).i ls by simp [dropS, h8])
        clear h8
        go_wp2_with fail
        refine HD.out.mono ?_
        rintro e w2 ⟨rfl, v2, t2, f2, hv2⟩
        obtain ⟨ls2, HL2⟩ : ∃ l, Hid (l = delS (minS ls).i ls) := ⟨_, Lib.hid rfl⟩
        have TT : RT w2 base q v2 clock ls2 := by rw [HL2.out]; exact t2
        have HR2 := Lib.hid (show risS ls2 from by rw [HL2.out]; exact risS_del IV.out.ris _)
        have HB2 : ls2.length ≤ 8 := by rw [HL2.out]; exact (by have := IV.out.len; have := List.length_filter_le (fun s => !(s.i == (minS ls).i)) ls; unfold delS; omega)
        obtain ⟨A2, c2, hve, -, hA2⟩ := TT.shape
        subst hve

        have f1 : w2.frozen? ⟨q, 1, none⟩ = false := frozen_of TT.2.1 1
        have wr1 : IntKind.i64.wrap (clock + 1) = clock + 1 := IntWalk.i64_in _ (by have := IV.out.c0; omega)
        have c1 := TT.c1
        have c01 := (TT.reclock (clock + 1)).c0
        have f0 : (w2.setCell ⟨q, 1, none⟩ (.int .i64 (clock + 1))).frozen? ⟨q, 0, none⟩ = false := frozen_of (TT.reclock (clock + 1)).2.1 0
        go_wp2_with fail
        obtain ⟨W1, hW1⟩ : ∃ W1, W1 = w2.setCell ⟨q, 1, none⟩ (.int .i64 (clock + 1)) := ⟨_, rfl⟩
        rw [← hW1] at c01 f0 ⊢
        have HT1 := Lib.hid (show RT W1 base q (.slice A2 ls2.length c2) (clock + 1) ls2 from by rw [hW1]; exact TT.reclock _)
        have HFR := Lib.hid (show Frm (RTk q (.slice A ls.length c)) w1 W1 from by rw [hW1]; exact Frm.setCell f2 _ _ (Or.inl (show RTk q _ q from Or.inl rfl)))
        have HB1 := Lib.hid (show base ≤ W1.heap.size from by have := HFR.out.size; omega)
        have c11 := HT1.out.c1
        have HNM := Lib.hid (show ∀ s ∈ ls2, s.i ≠ x from fun s hs => findS_none HFN.out s (by rw [HL2.out] at hs; exact (mem_delS.1 hs).1))
        clear hW1 TT f1 c1
        go_loopg [8] ls2.length (fun m ki wr => ∃ k : Nat, m = ls2.length - k ∧ k ≤ ls2.length ∧ ki = .int .i64 k ∧ Hid (∀ j (h : j < ls2.length), j < k → ls2[j].i < x) ∧ wr = W1)
        case atStart => exact ⟨0, rfl, by omega, rfl, Lib.hid (fun j h h0 => by omega), rfl⟩
        case round =>
          obtain ⟨k, hm, hk, rfl, HLO, rfl⟩ := hrel
          by_cases hkl : k < ls2.length
          · have hkl1 : (k : Int) < (ls2.length : Int) := by omega
            obtain ⟨g2, cc, cur, hve, hg, hbk, hlc, hcm, h3, h4⟩ := row_at HT1.out.2.2.1 rfl (by omega)
            injection hve with hv1 _ hv3
            subst hv1
            subst hv3
            have HC2 := Lib.hid (row_cells HT1.out.2.2.1 rfl)
            have hg2 := Lib.hid (show g2 < wr.heap.size from (HT1.out.2.2.1.lt g2 rfl).2)
            obtain ⟨x0, -⟩ := scells_get ls2 k hkl
            obtain ⟨y, hy⟩ : ∃ y, y = (ls2[k]).i := ⟨_, rfl⟩
            rw [← hy] at x0
            have x1 := HC2.out _ _ x0
            have HY := Lib.hid hy
            clear hy x0 hbk h3 h4
            by_cases hyx : y < x
            · go_wp2_with fail
              go_roundg (ls2.length - (k + 1))
              case measure => omega
              case rel =>
                refine ⟨k + 1, rfl, by omega, by go_num, Lib.hid fun j h hj => ?_, rfl⟩
                by_cases e : j = k
                · subst e; rw [← HY.out]; exact hyx
                · exact HLO.out j h (by omega)
            · have hkc : ¬ k = c2 := by omega
              have HHI := Lib.hid (show ∀ h : k < ls2.length, x < ls2[k].i from fun h => by
                have := HNM.out _ (List.getElem_mem h)
                rw [← HY.out] at this ⊢
                have : y ≠ x := this
                omega)
              have hki0 : (k : Int) ≤ (c2 : Int) := by omega
              have hki1 : (k : Int) ≤ (ls2.length : Int) := by omega
              obtain ⟨v6, w6, run6, own6, g6, -⟩ := run_append_sess (w := wr) wr.heap.size (.slice none 0 0) 0 [] (World.ownsRow_nil _ _ _ _) (some ⟨g2, 0, none⟩) k c2 (ls2.take k) (by simp; try omega) (fun h => by cases h) (fun a ha jj u hu => by
                cases ha
                rw [Addr.add_lit, Nat.zero_add]
                rw [scells_take] at hu
                have hlt := (List.getElem?_eq_some_iff.1 hu).1
                rw [List.length_take] at hlt
                rw [List.getElem?_take_of_lt (by omega)] at hu
                exact HC2.out jj u hu) (by omega) (Nat.le_refl _)
              have hk6 : ∀ j, j < wr.heap.size → w6.heap[j]? = wr.heap[j]? := fun j hj => g6.block j hj (by simp [Value.ownBlock])
              have z6 : wr.heap.size ≤ w6.heap.size := g6.size
              have hq6 : w6.cell? ⟨q, 1, none⟩ = some (.int .i64 (clock + 1)) := (World.cell?_of_block (w := wr) (hk6 q HT1.out.lt)).trans HT1.out.c1
              have K6 := Lib.hid hk6
              have G6 := Lib.hid g6
              have O6 := Lib.hid own6
              clear hk6 g6 own6
              go_wp2_with (first
                | (at_builtin; refine wpList_append_run rfl (.tmp 53) (.tmp 59) rfl rfl _ _ rfl rfl _ _ run6 ?_)
                | (at_builtin; refine wpList_append_ses w6 rfl (.tmp 61) (.tmp 68) rfl wr.heap.size v6 (0 + k) (scells ([] ++ ls2.take k)) rfl O6.out x 0 (clock + 1) (.slice none 0 0) rfl rfl (by omega) z6 ?_; intro v7 w7 own7 g7;
                    (have hk7 : ∀ j, j < wr.heap.size → w7.heap[j]? = wr.heap[j]? := fun j hj => by
                      rw [g7.block j (by simp; omega) (fun e => by have := (O6.out.lt j e.symm).1; omega), (below_alloc w6 _).block j (by omega)]
                      exact K6.out j hj);
                    (have z7 : wr.heap.size ≤ w7.heap.size := by have := g7.size; simp at this; omega);
                    (have own7' : w7.ownsRow wr.heap.size 44 4 v7 (0 + k + 1) (scells ([] ++ ls2.take k ++ [⟨x, 0, clock + 1, none, 0, []⟩])) := by rw [scells_append]; exact own7);
                    obtain ⟨v8, w8, run8, own8, g8, -⟩ := run_append_sess (w := w7) wr.heap.size v7 (0 + k + 1) ([] ++ ls2.take k ++ [⟨x, 0, clock + 1, none, 0, []⟩]) own7' (some ⟨g2, k * 4, none⟩) (ls2.length - k) (c2 - k) (ls2.drop k) (by simp; try omega) (fun h => by cases h) (fun a ha jj u hu => by
                cases ha
                rw [Addr.add_lit]
                rw [scells_drop, List.getElem?_drop] at hu
                have hc := HC2.out _ u hu
                refine (World.cell?_of_block (w := wr) (hk7 g2 hg2.out)).trans hc) (by omega) z7;
                    obtain ⟨n8, hn8⟩ : ∃ n, n = 0 + k + 1 + (ls2.length - k) := ⟨_, rfl⟩;
                    rw [← hn8] at own8;
                    obtain ⟨A8, c8, hv8e, -⟩ := own_shape own8;
                    subst hv8e;
                    (have hk8 : ∀ j, j < wr.heap.size → w8.heap[j]? = wr.heap[j]? := fun j hj => by
                      rw [g8.block j (by omega) (fun e => by have := (own7'.lt j e.symm).1; omega)]
                      exact hk7 j hj);
                    (have hc7 : w7.cell? ⟨q, 0, none⟩ = some (.slice (some ⟨g2, 0, none⟩) ls2.length c2) := (World.cell?_of_block (w := wr) (hk7 q HT1.out.lt)).trans HT1.out.c0);
                    (have hc8 : w8.cell? ⟨q, 0, none⟩ = some (.slice (some ⟨g2, 0, none⟩) ls2.length c2) := (World.cell?_of_block (w := wr) (hk8 q HT1.out.lt)).trans HT1.out.c0);
                    (have hf8 : w8.frozen? ⟨q, 0, none⟩ = false := frozen_of ((hk8 q HT1.out.lt).trans HT1.out.2.1) 0);
                    (have HFIN := Lib.hid (show RT (w8.setCell ⟨q, 0, none⟩ (.slice A8 n8 c8 : Value)) base q (.slice A8 n8 c8 : Value) (clock + 1) (insS ⟨x, 0, clock + 1, none, 0, []⟩ ls2) ∧ Frm (RTk q (.slice A ls.length c)) w1 (w8.setCell ⟨q, 0, none⟩ (.slice A8 n8 c8 : Value)) ∧ ∀ j, (.slice A8 n8 c8 : Value).ownBlock = some j → w1.heap.size ≤ j from by
                      have hls : [] ++ ls2.take k ++ [⟨x, 0, clock + 1, none, 0, []⟩] ++ ls2.drop k = insS ⟨x, 0, clock + 1, none, 0, []⟩ ls2 := by
                        rw [List.nil_append, ← insS_at (x := ⟨x, 0, clock + 1, none, 0, []⟩) (k := k) HR2.out (by first | omega | simp) HLO.out HHI.out]
                      have hz := HFR.out.size
                      rw [hls] at own8
                      refine ⟨HT1.out.reput (hk8 q HT1.out.lt) (by rw [hn8, ← hls]; simp; try omega) (own_lower own8 HB1.out) (fun s hs => ?_), ?_, fun j hj => Nat.le_trans hz (own8.lt j hj).1⟩
                      · rcases mem_insS.1 hs with rfl | hs
                        · exact OD.nil _ _
                        · have o := HT1.out.2.2.2 s hs
                          exact o.step fun j hj => hk8 j (o.1.lt j hj).2
                      · refine Frm.setCell (HFR.out.trans ⟨?_, ?_, ?_, by have := g8.size; omega, fun j hj _ => hk8 j hj⟩) _ _ (.inl (.inl rfl))
                        · rw [g8.os, g7.os]; exact G6.out.os
                        · rw [g8.tape, g7.tape]; exact G6.out.tape
                        · rw [g8.output, g7.output]; exact G6.out.output)); clear own7 own7' g7 own8 g8 hk7 hk8 z7 hn8)
                | (at_builtin; refine wpList_append_run rfl (.tmp 70) (.tmp 76) rfl rfl _ _ rfl rfl _ _ run8 ?_))
              go_ret2
              refine ⟨by rw [goneR_ok HE.out, HE.out, HGN.out]; rfl, _, clock + 1, insS ⟨x, 0, clock + 1, none, 0, []⟩ ls2, HFIN.out.1, .inr ⟨HE.out, rfl, ?_⟩, HFIN.out.2.1, fun j hj => .inr (HFIN.out.2.2 j hj)⟩
              rw [HDS.out]
              rw [← HL2.out]
              refine (put_new fun s hs => ?_).symm
              exact HNM.out s hs
          · obtain rfl : k = ls2.length := by omega
            have hkl1 : ¬ ((ls2.length : Int) < (ls2.length : Int)) := by omega
            rcases HT1.out.2.2.1.2 with ⟨hve, hn0⟩ | ⟨g2, cap, cur, hve, -, -, hcap, -⟩
            · obtain rfl : ls2 = [] := List.eq_nil_of_length_eq_zero hn0
              injection hve with hv1 _ hv3
              subst hv1
              subst hv3
              have HHI := Lib.hid (show ∀ h : 0 < ([] : List SV).length, x < ([] : List SV)[0].i from fun h => absurd h (by simp))
              obtain ⟨v6, w6, run6, own6, g6, -⟩ := run_append_sess (w := wr) wr.heap.size (.slice none 0 0) 0 [] (World.ownsRow_nil _ _ _ _) none 0 0 (([] : List SV).take 0) (by simp; try omega) (fun _ => ⟨rfl, rfl⟩) (fun a ha => by cases ha) (by omega) (Nat.le_refl _)
              have hk6 : ∀ j, j < wr.heap.size → w6.heap[j]? = wr.heap[j]? := fun j hj => g6.block j hj (by simp [Value.ownBlock])
              have z6 : wr.heap.size ≤ w6.heap.size := g6.size
              have hq6 : w6.cell? ⟨q, 1, none⟩ = some (.int .i64 (clock + 1)) := (World.cell?_of_block (w := wr) (hk6 q HT1.out.lt)).trans HT1.out.c1
              have K6 := Lib.hid hk6
              have G6 := Lib.hid g6
              have O6 := Lib.hid own6
              clear hk6 g6 own6
              go_wp2_with (first
                | (at_builtin; refine wpList_append_run rfl (.tmp 53) (.tmp 59) rfl rfl _ _ rfl rfl _ _ run6 ?_)
                | (at_builtin; refine wpList_append_ses w6 rfl (.tmp 61) (.tmp 68) rfl wr.heap.size v6 (0 + 0) (scells ([] ++ ([] : List SV).take 0)) rfl O6.out x 0 (clock + 1) (.slice none 0 0) rfl rfl (by omega) z6 ?_; intro v7 w7 own7 g7;
                    (have hk7 : ∀ j, j < wr.heap.size → w7.heap[j]? = wr.heap[j]? := fun j hj => by
                      rw [g7.block j (by simp; omega) (fun e => by have := (O6.out.lt j e.symm).1; omega), (below_alloc w6 _).block j (by omega)]
                      exact K6.out j hj);
                    (have z7 : wr.heap.size ≤ w7.heap.size := by have := g7.size; simp at this; omega);
                    (have own7' : w7.ownsRow wr.heap.size 44 4 v7 (0 + 0 + 1) (scells ([] ++ ([] : List SV).take 0 ++ [⟨x, 0, clock + 1, none, 0, []⟩])) := by rw [scells_append]; exact own7);
                    obtain ⟨v8, w8, run8, own8, g8, -⟩ := run_append_sess (w := w7) wr.heap.size v7 (0 + 0 + 1) ([] ++ ([] : List SV).take 0 ++ [⟨x, 0, clock + 1, none, 0, []⟩]) own7' none 0 0 (([] : List SV).drop 0) (by simp; try omega) (fun _ => ⟨rfl, rfl⟩) (fun a ha => by cases ha) (by omega) z7;
                    obtain ⟨n8, hn8⟩ : ∃ n, n = 0 + 0 + 1 + 0 := ⟨_, rfl⟩;
                    rw [← hn8] at own8;
                    obtain ⟨A8, c8, hv8e, -⟩ := own_shape own8;
                    subst hv8e;
                    (have hk8 : ∀ j, j < wr.heap.size → w8.heap[j]? = wr.heap[j]? := fun j hj => by
                      rw [g8.block j (by omega) (fun e => by have := (own7'.lt j e.symm).1; omega)]
                      exact hk7 j hj);
                    (have hc7 : w7.cell? ⟨q, 0, none⟩ = some (.slice none 0 0) := (World.cell?_of_block (w := wr) (hk7 q HT1.out.lt)).trans HT1.out.c0);
                    (have hc8 : w8.cell? ⟨q, 0, none⟩ = some (.slice none 0 0) := (World.cell?_of_block (w := wr) (hk8 q HT1.out.lt)).trans HT1.out.c0);
                    (have hf8 : w8.frozen? ⟨q, 0, none⟩ = false := frozen_of ((hk8 q HT1.out.lt).trans HT1.out.2.1) 0);
                    (have HFIN := Lib.hid (show RT (w8.setCell ⟨q, 0, none⟩ (.slice A8 n8 c8 : Value)) base q (.slice A8 n8 c8 : Value) (clock + 1) (insS ⟨x, 0, clock + 1, none, 0, []⟩ ([] : List SV)) ∧ Frm (RTk q (.slice A ls.length c)) w1 (w8.setCell ⟨q, 0, none⟩ (.slice A8 n8 c8 : Value)) ∧ ∀ j, (.slice A8 n8 c8 : Value).ownBlock = some j → w1.heap.size ≤ j from by
                      have hls : [] ++ ([] : List SV).take 0 ++ [⟨x, 0, clock + 1, none, 0, []⟩] ++ ([] : List SV).drop 0 = insS ⟨x, 0, clock + 1, none, 0, []⟩ ([] : List SV) := by
                        rw [List.nil_append, ← insS_at (x := ⟨x, 0, clock + 1, none, 0, []⟩) (k := 0) HR2.out (by first | omega | simp) HLO.out HHI.out]
                      have hz := HFR.out.size
                      rw [hls] at own8
                      refine ⟨HT1.out.reput (hk8 q HT1.out.lt) (by rw [hn8, ← hls]; simp; try omega) (own_lower own8 HB1.out) (fun s hs => ?_), ?_, fun j hj => Nat.le_trans hz (own8.lt j hj).1⟩
                      · rcases mem_insS.1 hs with rfl | hs
                        · exact OD.nil _ _
                        · have o := HT1.out.2.2.2 s hs
                          exact o.step fun j hj => hk8 j (o.1.lt j hj).2
                      · refine Frm.setCell (HFR.out.trans ⟨?_, ?_, ?_, by have := g8.size; omega, fun j hj _ => hk8 j hj⟩) _ _ (.inl (.inl rfl))
                        · rw [g8.os, g7.os]; exact G6.out.os
                        · rw [g8.tape, g7.tape]; exact G6.out.tape
                        · rw [g8.output, g7.output]; exact G6.out.output)); clear own7 own7' g7 own8 g8 hk7 hk8 z7 hn8)
                | (at_builtin; refine wpList_append_run rfl (.tmp 70) (.tmp 76) rfl rfl _ _ rfl rfl _ _ run8 ?_))
              go_ret2
              refine ⟨by rw [goneR_ok HE.out, HE.out, HGN.out]; rfl, _, clock + 1, insS ⟨x, 0, clock + 1, none, 0, []⟩ ([] : List SV), HFIN.out.1, .inr ⟨HE.out, rfl, ?_⟩, HFIN.out.2.1, fun j hj => .inr (HFIN.out.2.2 j hj)⟩
              rw [HDS.out]
              rw [← HL2.out]
              refine (put_new fun s hs => ?_).symm
              exact HNM.out s hs
            · injection hve with hv1 _ hv3
              subst hv1
              subst hv3
              have HC2 := Lib.hid (row_cells HT1.out.2.2.1 rfl)
              have hg2 := Lib.hid (show g2 < wr.heap.size from (HT1.out.2.2.1.lt g2 rfl).2)
              have HHI := Lib.hid (show ∀ h : ls2.length < ls2.length, x < ls2[ls2.length].i from fun h => absurd h (by omega))
              by_cases hcc : c2 = ls2.length
              · subst hcc
                obtain ⟨v6, w6, run6, own6, g6, -⟩ := run_append_sess (w := wr) wr.heap.size (.slice none 0 0) 0 [] (World.ownsRow_nil _ _ _ _) (some ⟨g2, 0, none⟩) ls2.length ls2.length (ls2.take ls2.length) (by simp; try omega) (fun h => by cases h) (fun a ha jj u hu => by
                  cases ha
                  rw [Addr.add_lit, Nat.zero_add]
                  rw [scells_take] at hu
                  have hlt := (List.getElem?_eq_some_iff.1 hu).1
                  rw [List.length_take] at hlt
                  rw [List.getElem?_take_of_lt (by omega)] at hu
                  exact HC2.out jj u hu) (by omega) (Nat.le_refl _)
                have hk6 : ∀ j, j < wr.heap.size → w6.heap[j]? = wr.heap[j]? := fun j hj => g6.block j hj (by simp [Value.ownBlock])
                have z6 : wr.heap.size ≤ w6.heap.size := g6.size
                have hq6 : w6.cell? ⟨q, 1, none⟩ = some (.int .i64 (clock + 1)) := (World.cell?_of_block (w := wr) (hk6 q HT1.out.lt)).trans HT1.out.c1
                have K6 := Lib.hid hk6
                have G6 := Lib.hid g6
                have O6 := Lib.hid own6
                clear hk6 g6 own6
                go_wp2_with (first
                  | (at_builtin; refine wpList_append_run rfl (.tmp 53) (.tmp 59) rfl rfl _ _ rfl rfl _ _ run6 ?_)
                  | (at_builtin; refine wpList_append_ses w6 rfl (.tmp 61) (.tmp 68) rfl wr.heap.size v6 (0 + ls2.length) (scells ([] ++ ls2.take ls2.length)) rfl O6.out x 0 (clock + 1) (.slice none 0 0) rfl rfl (by omega) z6 ?_; intro v7 w7 own7 g7;
                      (have hk7 : ∀ j, j < wr.heap.size → w7.heap[j]? = wr.heap[j]? := fun j hj => by
                        rw [g7.block j (by simp; omega) (fun e => by have := (O6.out.lt j e.symm).1; omega), (below_alloc w6 _).block j (by omega)]
                        exact K6.out j hj);
                      (have z7 : wr.heap.size ≤ w7.heap.size := by have := g7.size; simp at this; omega);
                      (have own7' : w7.ownsRow wr.heap.size 44 4 v7 (0 + ls2.length + 1) (scells ([] ++ ls2.take ls2.length ++ [⟨x, 0, clock + 1, none, 0, []⟩])) := by rw [scells_append]; exact own7);
                      obtain ⟨v8, w8, run8, own8, g8, -⟩ := run_append_sess (w := w7) wr.heap.size v7 (0 + ls2.length + 1) ([] ++ ls2.take ls2.length ++ [⟨x, 0, clock + 1, none, 0, []⟩]) own7' (some ⟨g2, 0, none⟩) 0 0 (ls2.drop ls2.length) (by simp; try omega) (fun h => by cases h) (fun a ha jj u hu => by
                  have : ls2.drop ls2.length = [] := List.drop_eq_nil_of_le (by omega)
                  rw [this] at hu
                  simp [scells] at hu) (by omega) z7;
                      obtain ⟨n8, hn8⟩ : ∃ n, n = 0 + ls2.length + 1 + 0 := ⟨_, rfl⟩;
                      rw [← hn8] at own8;
                      obtain ⟨A8, c8, hv8e, -⟩ := own_shape own8;
                      subst hv8e;
                      (have hk8 : ∀ j, j < wr.heap.size → w8.heap[j]? = wr.heap[j]? := fun j hj => by
                        rw [g8.block j (by omega) (fun e => by have := (own7'.lt j e.symm).1; omega)]
                        exact hk7 j hj);
                      (have hc7 : w7.cell? ⟨q, 0, none⟩ = some (.slice (some ⟨g2, 0, none⟩) ls2.length ls2.length) := (World.cell?_of_block (w := wr) (hk7 q HT1.out.lt)).trans HT1.out.c0);
                      (have hc8 : w8.cell? ⟨q, 0, none⟩ = some (.slice (some ⟨g2, 0, none⟩) ls2.length ls2.length) := (World.cell?_of_block (w := wr) (hk8 q HT1.out.lt)).trans HT1.out.c0);
                      (have hf8 : w8.frozen? ⟨q, 0, none⟩ = false := frozen_of ((hk8 q HT1.out.lt).trans HT1.out.2.1) 0);
                      (have HFIN := Lib.hid (show RT (w8.setCell ⟨q, 0, none⟩ (.slice A8 n8 c8 : Value)) base q (.slice A8 n8 c8 : Value) (clock + 1) (insS ⟨x, 0, clock + 1, none, 0, []⟩ ls2) ∧ Frm (RTk q (.slice A ls.length c)) w1 (w8.setCell ⟨q, 0, none⟩ (.slice A8 n8 c8 : Value)) ∧ ∀ j, (.slice A8 n8 c8 : Value).ownBlock = some j → w1.heap.size ≤ j from by
                        have hls : [] ++ ls2.take ls2.length ++ [⟨x, 0, clock + 1, none, 0, []⟩] ++ ls2.drop ls2.length = insS ⟨x, 0, clock + 1, none, 0, []⟩ ls2 := by
                          rw [List.nil_append, ← insS_at (x := ⟨x, 0, clock + 1, none, 0, []⟩) (k := ls2.length) HR2.out (by first | omega | simp) HLO.out HHI.out]
                        have hz := HFR.out.size
                        rw [hls] at own8
                        refine ⟨HT1.out.reput (hk8 q HT1.out.lt) (by rw [hn8, ← hls]; simp; try omega) (own_lower own8 HB1.out) (fun s hs => ?_), ?_, fun j hj => Nat.le_trans hz (own8.lt j hj).1⟩
                        · rcases mem_insS.1 hs with rfl | hs
                          · exact OD.nil _ _
                          · have o := HT1.out.2.2.2 s hs
                            exact o.step fun j hj => hk8 j (o.1.lt j hj).2
                        · refine Frm.setCell (HFR.out.trans ⟨?_, ?_, ?_, by have := g8.size; omega, fun j hj _ => hk8 j hj⟩) _ _ (.inl (.inl rfl))
                          · rw [g8.os, g7.os]; exact G6.out.os
                          · rw [g8.tape, g7.tape]; exact G6.out.tape
                          · rw [g8.output, g7.output]; exact G6.out.output)); clear own7 own7' g7 own8 g8 hk7 hk8 z7 hn8)
                  | (at_builtin; refine wpList_append_run rfl (.tmp 70) (.tmp 76) rfl rfl _ _ rfl rfl _ _ run8 ?_))
                go_ret2
                refine ⟨by rw [goneR_ok HE.out, HE.out, HGN.out]; rfl, _, clock + 1, insS ⟨x, 0, clock + 1, none, 0, []⟩ ls2, HFIN.out.1, .inr ⟨HE.out, rfl, ?_⟩, HFIN.out.2.1, fun j hj => .inr (HFIN.out.2.2 j hj)⟩
                rw [HDS.out]
                rw [← HL2.out]
                refine (put_new fun s hs => ?_).symm
                exact HNM.out s hs
              · have hcc' : ¬ ls2.length = c2 := fun e => hcc e.symm
                have hki0 : (ls2.length : Int) ≤ (c2 : Int) := by omega
                obtain ⟨v6, w6, run6, own6, g6, -⟩ := run_append_sess (w := wr) wr.heap.size (.slice none 0 0) 0 [] (World.ownsRow_nil _ _ _ _) (some ⟨g2, 0, none⟩) ls2.length c2 (ls2.take ls2.length) (by simp; try omega) (fun h => by cases h) (fun a ha jj u hu => by
                  cases ha
                  rw [Addr.add_lit, Nat.zero_add]
                  rw [scells_take] at hu
                  have hlt := (List.getElem?_eq_some_iff.1 hu).1
                  rw [List.length_take] at hlt
                  rw [List.getElem?_take_of_lt (by omega)] at hu
                  exact HC2.out jj u hu) (by omega) (Nat.le_refl _)
                have hk6 : ∀ j, j < wr.heap.size → w6.heap[j]? = wr.heap[j]? := fun j hj => g6.block j hj (by simp [Value.ownBlock])
                have z6 : wr.heap.size ≤ w6.heap.size := g6.size
                have hq6 : w6.cell? ⟨q, 1, none⟩ = some (.int .i64 (clock + 1)) := (World.cell?_of_block (w := wr) (hk6 q HT1.out.lt)).trans HT1.out.c1
                have K6 := Lib.hid hk6
                have G6 := Lib.hid g6
                have O6 := Lib.hid own6
                clear hk6 g6 own6
                go_wp2_with (first
                  | (at_builtin; refine wpList_append_run rfl (.tmp 53) (.tmp 59) rfl rfl _ _ rfl rfl _ _ run6 ?_)
                  | (at_builtin; refine wpList_append_ses w6 rfl (.tmp 61) (.tmp 68) rfl wr.heap.size v6 (0 + ls2.length) (scells ([] ++ ls2.take ls2.length)) rfl O6.out x 0 (clock + 1) (.slice none 0 0) rfl rfl (by omega) z6 ?_; intro v7 w7 own7 g7;
                      (have hk7 : ∀ j, j < wr.heap.size → w7.heap[j]? = wr.heap[j]? := fun j hj => by
                        rw [g7.block j (by simp; omega) (fun e => by have := (O6.out.lt j e.symm).1; omega), (below_alloc w6 _).block j (by omega)]
                        exact K6.out j hj);
                      (have z7 : wr.heap.size ≤ w7.heap.size := by have := g7.size; simp at this; omega);
                      (have own7' : w7.ownsRow wr.heap.size 44 4 v7 (0 + ls2.length + 1) (scells ([] ++ ls2.take ls2.length ++ [⟨x, 0, clock + 1, none, 0, []⟩])) := by rw [scells_append]; exact own7);
                      obtain ⟨v8, w8, run8, own8, g8, -⟩ := run_append_sess (w := w7) wr.heap.size v7 (0 + ls2.length + 1) ([] ++ ls2.take ls2.length ++ [⟨x, 0, clock + 1, none, 0, []⟩]) own7' (some ⟨g2, ls2.length * 4, none⟩) 0 (c2 - ls2.length) (ls2.drop ls2.length) (by simp; try omega) (fun h => by cases h) (fun a ha jj u hu => by
                  cases ha
                  rw [Addr.add_lit]
                  rw [scells_drop, List.getElem?_drop] at hu
                  have hc := HC2.out _ u hu
                  refine (World.cell?_of_block (w := wr) (hk7 g2 hg2.out)).trans hc) (by omega) z7;
                      obtain ⟨n8, hn8⟩ : ∃ n, n = 0 + ls2.length + 1 + 0 := ⟨_, rfl⟩;
                      rw [← hn8] at own8;
                      obtain ⟨A8, c8, hv8e, -⟩ := own_shape own8;
                      subst hv8e;
                      (have hk8 : ∀ j, j < wr.heap.size → w8.heap[j]? = wr.heap[j]? := fun j hj => by
                        rw [g8.block j (by omega) (fun e => by have := (own7'.lt j e.symm).1; omega)]
                        exact hk7 j hj);
                      (have hc7 : w7.cell? ⟨q, 0, none⟩ = some (.slice (some ⟨g2, 0, none⟩) ls2.length c2) := (World.cell?_of_block (w := wr) (hk7 q HT1.out.lt)).trans HT1.out.c0);
                      (have hc8 : w8.cell? ⟨q, 0, none⟩ = some (.slice (some ⟨g2, 0, none⟩) ls2.length c2) := (World.cell?_of_block (w := wr) (hk8 q HT1.out.lt)).trans HT1.out.c0);
                      (have hf8 : w8.frozen? ⟨q, 0, none⟩ = false := frozen_of ((hk8 q HT1.out.lt).trans HT1.out.2.1) 0);
                      (have HFIN := Lib.hid (show RT (w8.setCell ⟨q, 0, none⟩ (.slice A8 n8 c8 : Value)) base q (.slice A8 n8 c8 : Value) (clock + 1) (insS ⟨x, 0, clock + 1, none, 0, []⟩ ls2) ∧ Frm (RTk q (.slice A ls.length c)) w1 (w8.setCell ⟨q, 0, none⟩ (.slice A8 n8 c8 : Value)) ∧ ∀ j, (.slice A8 n8 c8 : Value).ownBlock = some j → w1.heap.size ≤ j from by
                        have hls : [] ++ ls2.take ls2.length ++ [⟨x, 0, clock + 1, none, 0, []⟩] ++ ls2.drop ls2.length = insS ⟨x, 0, clock + 1, none, 0, []⟩ ls2 := by
                          rw [List.nil_append, ← insS_at (x := ⟨x, 0, clock + 1, none, 0, []⟩) (k := ls2.length) HR2.out (by first | omega | simp) HLO.out HHI.out]
                        have hz := HFR.out.size
                        rw [hls] at own8
                        refine ⟨HT1.out.reput (hk8 q HT1.out.lt) (by rw [hn8, ← hls]; simp; try omega) (own_lower own8 HB1.out) (fun s hs => ?_), ?_, fun j hj => Nat.le_trans hz (own8.lt j hj).1⟩
                        · rcases mem_insS.1 hs with rfl | hs
                          · exact OD.nil _ _
                          · have o := HT1.out.2.2.2 s hs
                            exact o.step fun j hj => hk8 j (o.1.lt j hj).2
                        · refine Frm.setCell (HFR.out.trans ⟨?_, ?_, ?_, by have := g8.size; omega, fun j hj _ => hk8 j hj⟩) _ _ (.inl (.inl rfl))
                          · rw [g8.os, g7.os]; exact G6.out.os
                          · rw [g8.tape, g7.tape]; exact G6.out.tape
                          · rw [g8.output, g7.output]; exact G6.out.output)); clear own7 own7' g7 own8 g8 hk7 hk8 z7 hn8)
                  | (at_builtin; refine wpList_append_run rfl (.tmp 70) (.tmp 76) rfl rfl _ _ rfl rfl _ _ run8 ?_))
                go_ret2
                refine ⟨by rw [goneR_ok HE.out, HE.out, HGN.out]; rfl, _, clock + 1, insS ⟨x, 0, clock + 1, none, 0, []⟩ ls2, HFIN.out.1, .inr ⟨HE.out, rfl, ?_⟩, HFIN.out.2.1, fun j hj => .inr (HFIN.out.2.2 j hj)⟩
                rw [HDS.out]
                rw [← HL2.out]
                refine (put_new fun s hs => ?_).symm
                exact HNM.out s hs
      · have h8b : ((ls.length : Int) == 8) = false := by simp; omega
        have HGN := Lib.hid (show goneI ls = 0 by simp only [goneI]; rw [if_neg (by have := IV.out.len; omega)])
        have HDS := Lib.hid (show dropS ls = ls by simp only [dropS]; rw [if_neg (by have := IV.out.len; omega)])
        have TT := T.out
        have HR2 := Lib.hid IV.out.ris
        have HB2 : ls.length ≤ 8 := IV.out.len

        have f1 : w1.frozen? ⟨q, 1, none⟩ = false := frozen_of TT.2.1 1
        have wr1 : IntKind.i64.wrap (clock + 1) = clock + 1 := IntWalk.i64_in _ (by have := IV.out.c0; omega)
        have c1 := TT.c1
        have c01 := (TT.reclock (clock + 1)).c0
        have f0 : (w1.setCell ⟨q, 1, none⟩ (.int .i64 (clock + 1))).frozen? ⟨q, 0, none⟩ = false := frozen_of (TT.reclock (clock + 1)).2.1 0
        go_wp2_with fail
        obtain ⟨W1, hW1⟩ : ∃ W1, W1 = w1.setCell ⟨q, 1, none⟩ (.int .i64 (clock + 1)) := ⟨_, rfl⟩
        rw [← hW1] at c01 f0 ⊢
        have HT1 := Lib.hid (show RT W1 base q (.slice A ls.length c) (clock + 1) ls from by rw [hW1]; exact TT.reclock _)
        have HFR := Lib.hid (show Frm (RTk q (.slice A ls.length c)) w1 W1 from by rw [hW1]; exact Frm.setCell (Frm.refl _ _) _ _ (Or.inl (show RTk q _ q from Or.inl rfl)))
        have HB1 := Lib.hid (show base ≤ W1.heap.size from by have := HFR.out.size; omega)
        have c11 := HT1.out.c1
        have HNM := Lib.hid (show ∀ s ∈ ls, s.i ≠ x from fun s hs => findS_none HFN.out s hs)
        clear hW1 TT f1 c1
        go_loopg [8] ls.length (fun m ki wr => ∃ k : Nat, m = ls.length - k ∧ k ≤ ls.length ∧ ki = .int .i64 k ∧ Hid (∀ j (h : j < ls.length), j < k → ls[j].i < x) ∧ wr = W1)
        case atStart => exact ⟨0, rfl, by omega, rfl, Lib.hid (fun j h h0 => by omega), rfl⟩
        case round =>
          obtain ⟨k, hm, hk, rfl, HLO, rfl⟩ := hrel
          by_cases hkl : k < ls.length
          · have hkl1 : (k : Int) < (ls.length : Int) := by omega
            obtain ⟨g2, cc, cur, hve, hg, hbk, hlc, hcm, h3, h4⟩ := row_at HT1.out.2.2.1 rfl (by omega)
            injection hve with hv1 _ hv3
            subst hv1
            subst hv3
            have HC2 := Lib.hid (row_cells HT1.out.2.2.1 rfl)
            have hg2 := Lib.hid (show g2 < wr.heap.size from (HT1.out.2.2.1.lt g2 rfl).2)
            obtain ⟨x0, -⟩ := scells_get ls k hkl
            obtain ⟨y, hy⟩ : ∃ y, y = (ls[k]).i := ⟨_, rfl⟩
            rw [← hy] at x0
            have x1 := HC2.out _ _ x0
            have HY := Lib.hid hy
            clear hy x0 hbk h3 h4
            by_cases hyx : y < x
            · go_wp2_with fail
              go_roundg (ls.length - (k + 1))
              case measure => omega
              case rel =>
                refine ⟨k + 1, rfl, by omega, by go_num, Lib.hid fun j h hj => ?_, rfl⟩
                by_cases e : j = k
                · subst e; rw [← HY.out]; exact hyx
                · exact HLO.out j h (by omega)
            · have hkc : ¬ k = c := by omega
              have HHI := Lib.hid (show ∀ h : k < ls.length, x < ls[k].i from fun h => by
                have := HNM.out _ (List.getElem_mem h)
                rw [← HY.out] at this ⊢
                have : y ≠ x := this
                omega)
              have hki0 : (k : Int) ≤ (c : Int) := by omega
              have hki1 : (k : Int) ≤ (ls.length : Int) := by omega
              obtain ⟨v6, w6, run6, own6, g6, -⟩ := run_append_sess (w := wr) wr.heap.size (.slice none 0 0) 0 [] (World.ownsRow_nil _ _ _ _) (some ⟨g2, 0, none⟩) k c (ls.take k) (by simp; try omega) (fun h => by cases h) (fun a ha jj u hu => by
                cases ha
                rw [Addr.add_lit, Nat.zero_add]
                rw [scells_take] at hu
                have hlt := (List.getElem?_eq_some_iff.1 hu).1
                rw [List.length_take] at hlt
                rw [List.getElem?_take_of_lt (by omega)] at hu
                exact HC2.out jj u hu) (by omega) (Nat.le_refl _)
              have hk6 : ∀ j, j < wr.heap.size → w6.heap[j]? = wr.heap[j]? := fun j hj => g6.block j hj (by simp [Value.ownBlock])
              have z6 : wr.heap.size ≤ w6.heap.size := g6.size
              have hq6 : w6.cell? ⟨q, 1, none⟩ = some (.int .i64 (clock + 1)) := (World.cell?_of_block (w := wr) (hk6 q HT1.out.lt)).trans HT1.out.c1
              have K6 := Lib.hid hk6
              have G6 := Lib.hid g6
              have O6 := Lib.hid own6
              clear hk6 g6 own6
              go_wp2_with (first
                | (at_builtin; refine wpList_append_run rfl (.tmp 53) (.tmp 59) rfl rfl _ _ rfl rfl _ _ run6 ?_)
                | (at_builtin; refine wpList_append_ses w6 rfl (.tmp 61) (.tmp 68) rfl wr.heap.size v6 (0 + k) (scells ([] ++ ls.take k)) rfl O6.out x 0 (clock + 1) (.slice none 0 0) rfl rfl (by omega) z6 ?_; intro v7 w7 own7 g7;
                    (have hk7 : ∀ j, j < wr.heap.size → w7.heap[j]? = wr.heap[j]? := fun j hj => by
                      rw [g7.block j (by simp; omega) (fun e => by have := (O6.out.lt j e.symm).1; omega), (below_alloc w6 _).block j (by omega)]
                      exact K6.out j hj);
                    (have z7 : wr.heap.size ≤ w7.heap.size := by have := g7.size; simp at this; omega);
                    (have own7' : w7.ownsRow wr.heap.size 44 4 v7 (0 + k + 1) (scells ([] ++ ls.take k ++ [⟨x, 0, clock + 1, none, 0, []⟩])) := by rw [scells_append]; exact own7);
                    obtain ⟨v8, w8, run8, own8, g8, -⟩ := run_append_sess (w := w7) wr.heap.size v7 (0 + k + 1) ([] ++ ls.take k ++ [⟨x, 0, clock + 1, none, 0, []⟩]) own7' (some ⟨g2, k * 4, none⟩) (ls.length - k) (c - k) (ls.drop k) (by simp; try omega) (fun h => by cases h) (fun a ha jj u hu => by
                cases ha
                rw [Addr.add_lit]
                rw [scells_drop, List.getElem?_drop] at hu
                have hc := HC2.out _ u hu
                refine (World.cell?_of_block (w := wr) (hk7 g2 hg2.out)).trans hc) (by omega) z7;
                    obtain ⟨n8, hn8⟩ : ∃ n, n = 0 + k + 1 + (ls.length - k) := ⟨_, rfl⟩;
                    rw [← hn8] at own8;
                    obtain ⟨A8, c8, hv8e, -⟩ := own_shape own8;
                    subst hv8e;
                    (have hk8 : ∀ j, j < wr.heap.size → w8.heap[j]? = wr.heap[j]? := fun j hj => by
                      rw [g8.block j (by omega) (fun e => by have := (own7'.lt j e.symm).1; omega)]
                      exact hk7 j hj);
                    (have hc7 : w7.cell? ⟨q, 0, none⟩ = some (.slice (some ⟨g2, 0, none⟩) ls.length c) := (World.cell?_of_block (w := wr) (hk7 q HT1.out.lt)).trans HT1.out.c0);
                    (have hc8 : w8.cell? ⟨q, 0, none⟩ = some (.slice (some ⟨g2, 0, none⟩) ls.length c) := (World.cell?_of_block (w := wr) (hk8 q HT1.out.lt)).trans HT1.out.c0);
                    (have hf8 : w8.frozen? ⟨q, 0, none⟩ = false := frozen_of ((hk8 q HT1.out.lt).trans HT1.out.2.1) 0);
                    (have HFIN := Lib.hid (show RT (w8.setCell ⟨q, 0, none⟩ (.slice A8 n8 c8 : Value)) base q (.slice A8 n8 c8 : Value) (clock + 1) (insS ⟨x, 0, clock + 1, none, 0, []⟩ ls) ∧ Frm (RTk q (.slice (some ⟨g2, 0, none⟩) ls.length c)) w1 (w8.setCell ⟨q, 0, none⟩ (.slice A8 n8 c8 : Value)) ∧ ∀ j, (.slice A8 n8 c8 : Value).ownBlock = some j → w1.heap.size ≤ j from by
                      have hls : [] ++ ls.take k ++ [⟨x, 0, clock + 1, none, 0, []⟩] ++ ls.drop k = insS ⟨x, 0, clock + 1, none, 0, []⟩ ls := by
                        rw [List.nil_append, ← insS_at (x := ⟨x, 0, clock + 1, none, 0, []⟩) (k := k) HR2.out (by first | omega | simp) HLO.out HHI.out]
                      have hz := HFR.out.size
                      rw [hls] at own8
                      refine ⟨HT1.out.reput (hk8 q HT1.out.lt) (by rw [hn8, ← hls]; simp; try omega) (own_lower own8 HB1.out) (fun s hs => ?_), ?_, fun j hj => Nat.le_trans hz (own8.lt j hj).1⟩
                      · rcases mem_insS.1 hs with rfl | hs
                        · exact OD.nil _ _
                        · have o := HT1.out.2.2.2 s hs
                          exact o.step fun j hj => hk8 j (o.1.lt j hj).2
                      · refine Frm.setCell (HFR.out.trans ⟨?_, ?_, ?_, by have := g8.size; omega, fun j hj _ => hk8 j hj⟩) _ _ (.inl (.inl rfl))
                        · rw [g8.os, g7.os]; exact G6.out.os
                        · rw [g8.tape, g7.tape]; exact G6.out.tape
                        · rw [g8.output, g7.output]; exact G6.out.output)); clear own7 own7' g7 own8 g8 hk7 hk8 z7 hn8)
                | (at_builtin; refine wpList_append_run rfl (.tmp 70) (.tmp 76) rfl rfl _ _ rfl rfl _ _ run8 ?_))
              go_ret2
              refine ⟨by rw [goneR_ok HE.out, HE.out, HGN.out]; rfl, _, clock + 1, insS ⟨x, 0, clock + 1, none, 0, []⟩ ls, HFIN.out.1, .inr ⟨HE.out, rfl, ?_⟩, HFIN.out.2.1, fun j hj => .inr (HFIN.out.2.2 j hj)⟩
              rw [HDS.out]

              refine (put_new fun s hs => ?_).symm
              exact HNM.out s hs
          · obtain rfl : k = ls.length := by omega
            have hkl1 : ¬ ((ls.length : Int) < (ls.length : Int)) := by omega
            rcases HT1.out.2.2.1.2 with ⟨hve, hn0⟩ | ⟨g2, cap, cur, hve, -, -, hcap, -⟩
            · obtain rfl : ls = [] := List.eq_nil_of_length_eq_zero hn0
              injection hve with hv1 _ hv3
              subst hv1
              subst hv3
              have HHI := Lib.hid (show ∀ h : 0 < ([] : List SV).length, x < ([] : List SV)[0].i from fun h => absurd h (by simp))
              obtain ⟨v6, w6, run6, own6, g6, -⟩ := run_append_sess (w := wr) wr.heap.size (.slice none 0 0) 0 [] (World.ownsRow_nil _ _ _ _) none 0 0 (([] : List SV).take 0) (by simp; try omega) (fun _ => ⟨rfl, rfl⟩) (fun a ha => by cases ha) (by omega) (Nat.le_refl _)
              have hk6 : ∀ j, j < wr.heap.size → w6.heap[j]? = wr.heap[j]? := fun j hj => g6.block j hj (by simp [Value.ownBlock])
              have z6 : wr.heap.size ≤ w6.heap.size := g6.size
              have hq6 : w6.cell? ⟨q, 1, none⟩ = some (.int .i64 (clock + 1)) := (World.cell?_of_block (w := wr) (hk6 q HT1.out.lt)).trans HT1.out.c1
              have K6 := Lib.hid hk6
              have G6 := Lib.hid g6
              have O6 := Lib.hid own6
              clear hk6 g6 own6
              go_wp2_with (first
                | (at_builtin; refine wpList_append_run rfl (.tmp 53) (.tmp 59) rfl rfl _ _ rfl rfl _ _ run6 ?_)
                | (at_builtin; refine wpList_append_ses w6 rfl (.tmp 61) (.tmp 68) rfl wr.heap.size v6 (0 + 0) (scells ([] ++ ([] : List SV).take 0)) rfl O6.out x 0 (clock + 1) (.slice none 0 0) rfl rfl (by omega) z6 ?_; intro v7 w7 own7 g7;
                    (have hk7 : ∀ j, j < wr.heap.size → w7.heap[j]? = wr.heap[j]? := fun j hj => by
                      rw [g7.block j (by simp; omega) (fun e => by have := (O6.out.lt j e.symm).1; omega), (below_alloc w6 _).block j (by omega)]
                      exact K6.out j hj);
                    (have z7 : wr.heap.size ≤ w7.heap.size := by have := g7.size; simp at this; omega);
                    (have own7' : w7.ownsRow wr.heap.size 44 4 v7 (0 + 0 + 1) (scells ([] ++ ([] : List SV).take 0 ++ [⟨x, 0, clock + 1, none, 0, []⟩])) := by rw [scells_append]; exact own7);
                    obtain ⟨v8, w8, run8, own8, g8, -⟩ := run_append_sess (w := w7) wr.heap.size v7 (0 + 0 + 1) ([] ++ ([] : List SV).take 0 ++ [⟨x, 0, clock + 1, none, 0, []⟩]) own7' none 0 0 (([] : List SV).drop 0) (by simp; try omega) (fun _ => ⟨rfl, rfl⟩) (fun a ha => by cases ha) (by omega) z7;
                    obtain ⟨n8, hn8⟩ : ∃ n, n = 0 + 0 + 1 + 0 := ⟨_, rfl⟩;
                    rw [← hn8] at own8;
                    obtain ⟨A8, c8, hv8e, -⟩ := own_shape own8;
                    subst hv8e;
                    (have hk8 : ∀ j, j < wr.heap.size → w8.heap[j]? = wr.heap[j]? := fun j hj => by
                      rw [g8.block j (by omega) (fun e => by have := (own7'.lt j e.symm).1; omega)]
                      exact hk7 j hj);
                    (have hc7 : w7.cell? ⟨q, 0, none⟩ = some (.slice none 0 0) := (World.cell?_of_block (w := wr) (hk7 q HT1.out.lt)).trans HT1.out.c0);
                    (have hc8 : w8.cell? ⟨q, 0, none⟩ = some (.slice none 0 0) := (World.cell?_of_block (w := wr) (hk8 q HT1.out.lt)).trans HT1.out.c0);
                    (have hf8 : w8.frozen? ⟨q, 0, none⟩ = false := frozen_of ((hk8 q HT1.out.lt).trans HT1.out.2.1) 0);
                    (have HFIN := Lib.hid (show RT (w8.setCell ⟨q, 0, none⟩ (.slice A8 n8 c8 : Value)) base q (.slice A8 n8 c8 : Value) (clock + 1) (insS ⟨x, 0, clock + 1, none, 0, []⟩ ([] : List SV)) ∧ Frm (RTk q (.slice none ([] : List SV).length 0)) w1 (w8.setCell ⟨q, 0, none⟩ (.slice A8 n8 c8 : Value)) ∧ ∀ j, (.slice A8 n8 c8 : Value).ownBlock = some j → w1.heap.size ≤ j from by
                      have hls : [] ++ ([] : List SV).take 0 ++ [⟨x, 0, clock + 1, none, 0, []⟩] ++ ([] : List SV).drop 0 = insS ⟨x, 0, clock + 1, none, 0, []⟩ ([] : List SV) := by
                        rw [List.nil_append, ← insS_at (x := ⟨x, 0, clock + 1, none, 0, []⟩) (k := 0) HR2.out (by first | omega | simp) HLO.out HHI.out]
                      have hz := HFR.out.size
                      rw [hls] at own8
                      refine ⟨HT1.out.reput (hk8 q HT1.out.lt) (by rw [hn8, ← hls]; simp; try omega) (own_lower own8 HB1.out) (fun s hs => ?_), ?_, fun j hj => Nat.le_trans hz (own8.lt j hj).1⟩
                      · rcases mem_insS.1 hs with rfl | hs
                        · exact OD.nil _ _
                        · have o := HT1.out.2.2.2 s hs
                          exact o.step fun j hj => hk8 j (o.1.lt j hj).2
                      · refine Frm.setCell (HFR.out.trans ⟨?_, ?_, ?_, by have := g8.size; omega, fun j hj _ => hk8 j hj⟩) _ _ (.inl (.inl rfl))
                        · rw [g8.os, g7.os]; exact G6.out.os
                        · rw [g8.tape, g7.tape]; exact G6.out.tape
                        · rw [g8.output, g7.output]; exact G6.out.output)); clear own7 own7' g7 own8 g8 hk7 hk8 z7 hn8)
                | (at_builtin; refine wpList_append_run rfl (.tmp 70) (.tmp 76) rfl rfl _ _ rfl rfl _ _ run8 ?_))
              go_ret2
              refine ⟨by rw [goneR_ok HE.out, HE.out, HGN.out]; rfl, _, clock + 1, insS ⟨x, 0, clock + 1, none, 0, []⟩ ([] : List SV), HFIN.out.1, .inr ⟨HE.out, rfl, ?_⟩, HFIN.out.2.1, fun j hj => .inr (HFIN.out.2.2 j hj)⟩
              rw [HDS.out]

              refine (put_new fun s hs => ?_).symm
              exact HNM.out s hs
            · injection hve with hv1 _ hv3
              subst hv1
              subst hv3
              have HC2 := Lib.hid (row_cells HT1.out.2.2.1 rfl)
              have hg2 := Lib.hid (show g2 < wr.heap.size from (HT1.out.2.2.1.lt g2 rfl).2)
              have HHI := Lib.hid (show ∀ h : ls.length < ls.length, x < ls[ls.length].i from fun h => absurd h (by omega))
              by_cases hcc : c = ls.length
              · subst hcc
                obtain ⟨v6, w6, run6, own6, g6, -⟩ := run_append_sess (w := wr) wr.heap.size (.slice none 0 0) 0 [] (World.ownsRow_nil _ _ _ _) (some ⟨g2, 0, none⟩) ls.length ls.length (ls.take ls.length) (by simp; try omega) (fun h => by cases h) (fun a ha jj u hu => by
                  cases ha
                  rw [Addr.add_lit, Nat.zero_add]
                  rw [scells_take] at hu
                  have hlt := (List.getElem?_eq_some_iff.1 hu).1
                  rw [List.length_take] at hlt
                  rw [List.getElem?_take_of_lt (by omega)] at hu
                  exact HC2.out jj u hu) (by omega) (Nat.le_refl _)
                have hk6 : ∀ j, j < wr.heap.size → w6.heap[j]? = wr.heap[j]? := fun j hj => g6.block j hj (by simp [Value.ownBlock])
                have z6 : wr.heap.size ≤ w6.heap.size := g6.size
                have hq6 : w6.cell? ⟨q, 1, none⟩ = some (.int .i64 (clock + 1)) := (World.cell?_of_block (w := wr) (hk6 q HT1.out.lt)).trans HT1.out.c1
                have K6 := Lib.hid hk6
                have G6 := Lib.hid g6
                have O6 := Lib.hid own6
                clear hk6 g6 own6
                go_wp2_with (first
                  | (at_builtin; refine wpList_append_run rfl (.tmp 53) (.tmp 59) rfl rfl _ _ rfl rfl _ _ run6 ?_)
                  | (at_builtin; refine wpList_append_ses w6 rfl (.tmp 61) (.tmp 68) rfl wr.heap.size v6 (0 + ls.length) (scells ([] ++ ls.take ls.length)) rfl O6.out x 0 (clock + 1) (.slice none 0 0) rfl rfl (by omega) z6 ?_; intro v7 w7 own7 g7;
                      (have hk7 : ∀ j, j < wr.heap.size → w7.heap[j]? = wr.heap[j]? := fun j hj => by
                        rw [g7.block j (by simp; omega) (fun e => by have := (O6.out.lt j e.symm).1; omega), (below_alloc w6 _).block j (by omega)]
                        exact K6.out j hj);
                      (have z7 : wr.heap.size ≤ w7.heap.size := by have := g7.size; simp at this; omega);
                      (have own7' : w7.ownsRow wr.heap.size 44 4 v7 (0 + ls.length + 1) (scells ([] ++ ls.take ls.length ++ [⟨x, 0, clock + 1, none, 0, []⟩])) := by rw [scells_append]; exact own7);
                      obtain ⟨v8, w8, run8, own8, g8, -⟩ := run_append_sess (w := w7) wr.heap.size v7 (0 + ls.length + 1) ([] ++ ls.take ls.length ++ [⟨x, 0, clock + 1, none, 0, []⟩]) own7' (some ⟨g2, 0, none⟩) 0 0 (ls.drop ls.length) (by simp; try omega) (fun h => by cases h) (fun a ha jj u hu => by
                  have : ls.drop ls.length = [] := List.drop_eq_nil_of_le (by omega)
                  rw [this] at hu
                  simp [scells] at hu) (by omega) z7;
                      obtain ⟨n8, hn8⟩ : ∃ n, n = 0 + ls.length + 1 + 0 := ⟨_, rfl⟩;
                      rw [← hn8] at own8;
                      obtain ⟨A8, c8, hv8e, -⟩ := own_shape own8;
                      subst hv8e;
                      (have hk8 : ∀ j, j < wr.heap.size → w8.heap[j]? = wr.heap[j]? := fun j hj => by
                        rw [g8.block j (by omega) (fun e => by have := (own7'.lt j e.symm).1; omega)]
                        exact hk7 j hj);
                      (have hc7 : w7.cell? ⟨q, 0, none⟩ = some (.slice (some ⟨g2, 0, none⟩) ls.length ls.length) := (World.cell?_of_block (w := wr) (hk7 q HT1.out.lt)).trans HT1.out.c0);
                      (have hc8 : w8.cell? ⟨q, 0, none⟩ = some (.slice (some ⟨g2, 0, none⟩) ls.length ls.length) := (World.cell?_of_block (w := wr) (hk8 q HT1.out.lt)).trans HT1.out.c0);
                      (have hf8 : w8.frozen? ⟨q, 0, none⟩ = false := frozen_of ((hk8 q HT1.out.lt).trans HT1.out.2.1) 0);
                      (have HFIN := Lib.hid (show RT (w8.setCell ⟨q, 0, none⟩ (.slice A8 n8 c8 : Value)) base q (.slice A8 n8 c8 : Value) (clock + 1) (insS ⟨x, 0, clock + 1, none, 0, []⟩ ls) ∧ Frm (RTk q (.slice (some ⟨g2, 0, none⟩) ls.length ls.length)) w1 (w8.setCell ⟨q, 0, none⟩ (.slice A8 n8 c8 : Value)) ∧ ∀ j, (.slice A8 n8 c8 : Value).ownBlock = some j → w1.heap.size ≤ j from by
                        have hls : [] ++ ls.take ls.length ++ [⟨x, 0, clock + 1, none, 0, []⟩] ++ ls.drop ls.length = insS ⟨x, 0, clock + 1, none, 0, []⟩ ls := by
                          rw [List.nil_append, ← insS_at (x := ⟨x, 0, clock + 1, none, 0, []⟩) (k := ls.length) HR2.out (by first | omega | simp) HLO.out HHI.out]
                        have hz := HFR.out.size
                        rw [hls] at own8
                        refine ⟨HT1.out.reput (hk8 q HT1.out.lt) (by rw [hn8, ← hls]; simp; try omega) (own_lower own8 HB1.out) (fun s hs => ?_), ?_, fun j hj => Nat.le_trans hz (own8.lt j hj).1⟩
                        · rcases mem_insS.1 hs with rfl | hs
                          · exact OD.nil _ _
                          · have o := HT1.out.2.2.2 s hs
                            exact o.step fun j hj => hk8 j (o.1.lt j hj).2
                        · refine Frm.setCell (HFR.out.trans ⟨?_, ?_, ?_, by have := g8.size; omega, fun j hj _ => hk8 j hj⟩) _ _ (.inl (.inl rfl))
                          · rw [g8.os, g7.os]; exact G6.out.os
                          · rw [g8.tape, g7.tape]; exact G6.out.tape
                          · rw [g8.output, g7.output]; exact G6.out.output)); clear own7 own7' g7 own8 g8 hk7 hk8 z7 hn8)
                  | (at_builtin; refine wpList_append_run rfl (.tmp 70) (.tmp 76) rfl rfl _ _ rfl rfl _ _ run8 ?_))
                go_ret2
                refine ⟨by rw [goneR_ok HE.out, HE.out, HGN.out]; rfl, _, clock + 1, insS ⟨x, 0, clock + 1, none, 0, []⟩ ls, HFIN.out.1, .inr ⟨HE.out, rfl, ?_⟩, HFIN.out.2.1, fun j hj => .inr (HFIN.out.2.2 j hj)⟩
                rw [HDS.out]

                refine (put_new fun s hs => ?_).symm
                exact HNM.out s hs
              · have hcc' : ¬ ls.length = c := fun e => hcc e.symm
                have hki0 : (ls.length : Int) ≤ (c : Int) := by omega
                obtain ⟨v6, w6, run6, own6, g6, -⟩ := run_append_sess (w := wr) wr.heap.size (.slice none 0 0) 0 [] (World.ownsRow_nil _ _ _ _) (some ⟨g2, 0, none⟩) ls.length c (ls.take ls.length) (by simp; try omega) (fun h => by cases h) (fun a ha jj u hu => by
                  cases ha
                  rw [Addr.add_lit, Nat.zero_add]
                  rw [scells_take] at hu
                  have hlt := (List.getElem?_eq_some_iff.1 hu).1
                  rw [List.length_take] at hlt
                  rw [List.getElem?_take_of_lt (by omega)] at hu
                  exact HC2.out jj u hu) (by omega) (Nat.le_refl _)
                have hk6 : ∀ j, j < wr.heap.size → w6.heap[j]? = wr.heap[j]? := fun j hj => g6.block j hj (by simp [Value.ownBlock])
                have z6 : wr.heap.size ≤ w6.heap.size := g6.size
                have hq6 : w6.cell? ⟨q, 1, none⟩ = some (.int .i64 (clock + 1)) := (World.cell?_of_block (w := wr) (hk6 q HT1.out.lt)).trans HT1.out.c1
                have K6 := Lib.hid hk6
                have G6 := Lib.hid g6
                have O6 := Lib.hid own6
                clear hk6 g6 own6
                go_wp2_with (first
                  | (at_builtin; refine wpList_append_run rfl (.tmp 53) (.tmp 59) rfl rfl _ _ rfl rfl _ _ run6 ?_)
                  | (at_builtin; refine wpList_append_ses w6 rfl (.tmp 61) (.tmp 68) rfl wr.heap.size v6 (0 + ls.length) (scells ([] ++ ls.take ls.length)) rfl O6.out x 0 (clock + 1) (.slice none 0 0) rfl rfl (by omega) z6 ?_; intro v7 w7 own7 g7;
                      (have hk7 : ∀ j, j < wr.heap.size → w7.heap[j]? = wr.heap[j]? := fun j hj => by
                        rw [g7.block j (by simp; omega) (fun e => by have := (O6.out.lt j e.symm).1; omega), (below_alloc w6 _).block j (by omega)]
                        exact K6.out j hj);
                      (have z7 : wr.heap.size ≤ w7.heap.size := by have := g7.size; simp at this; omega);
                      (have own7' : w7.ownsRow wr.heap.size 44 4 v7 (0 + ls.length + 1) (scells ([] ++ ls.take ls.length ++ [⟨x, 0, clock + 1, none, 0, []⟩])) := by rw [scells_append]; exact own7);
                      obtain ⟨v8, w8, run8, own8, g8, -⟩ := run_append_sess (w := w7) wr.heap.size v7 (0 + ls.length + 1) ([] ++ ls.take ls.length ++ [⟨x, 0, clock + 1, none, 0, []⟩]) own7' (some ⟨g2, ls.length * 4, none⟩) 0 (c - ls.length) (ls.drop ls.length) (by simp; try omega) (fun h => by cases h) (fun a ha jj u hu => by
                  cases ha
                  rw [Addr.add_lit]
                  rw [scells_drop, List.getElem?_drop] at hu
                  have hc := HC2.out _ u hu
                  refine (World.cell?_of_block (w := wr) (hk7 g2 hg2.out)).trans hc) (by omega) z7;
                      obtain ⟨n8, hn8⟩ : ∃ n, n = 0 + ls.length + 1 + 0 := ⟨_, rfl⟩;
                      rw [← hn8] at own8;
                      obtain ⟨A8, c8, hv8e, -⟩ := own_shape own8;
                      subst hv8e;
                      (have hk8 : ∀ j, j < wr.heap.size → w8.heap[j]? = wr.heap[j]? := fun j hj => by
                        rw [g8.block j (by omega) (fun e => by have := (own7'.lt j e.symm).1; omega)]
                        exact hk7 j hj);
                      (have hc7 : w7.cell? ⟨q, 0, none⟩ = some (.slice (some ⟨g2, 0, none⟩) ls.length c) := (World.cell?_of_block (w := wr) (hk7 q HT1.out.lt)).trans HT1.out.c0);
                      (have hc8 : w8.cell? ⟨q, 0, none⟩ = some (.slice (some ⟨g2, 0, none⟩) ls.length c) := (World.cell?_of_block (w := wr) (hk8 q HT1.out.lt)).trans HT1.out.c0);
                      (have hf8 : w8.frozen? ⟨q, 0, none⟩ = false := frozen_of ((hk8 q HT1.out.lt).trans HT1.out.2.1) 0);
                      (have HFIN := Lib.hid (show RT (w8.setCell ⟨q, 0, none⟩ (.slice A8 n8 c8 : Value)) base q (.slice A8 n8 c8 : Value) (clock + 1) (insS ⟨x, 0, clock + 1, none, 0, []⟩ ls) ∧ Frm (RTk q (.slice (some ⟨g2, 0, none⟩) ls.length c)) w1 (w8.setCell ⟨q, 0, none⟩ (.slice A8 n8 c8 : Value)) ∧ ∀ j, (.slice A8 n8 c8 : Value).ownBlock = some j → w1.heap.size ≤ j from by
                        have hls : [] ++ ls.take ls.length ++ [⟨x, 0, clock + 1, none, 0, []⟩] ++ ls.drop ls.length = insS ⟨x, 0, clock + 1, none, 0, []⟩ ls := by
                          rw [List.nil_append, ← insS_at (x := ⟨x, 0, clock + 1, none, 0, []⟩) (k := ls.length) HR2.out (by first | omega | simp) HLO.out HHI.out]
                        have hz := HFR.out.size
                        rw [hls] at own8
                        refine ⟨HT1.out.reput (hk8 q HT1.out.lt) (by rw [hn8, ← hls]; simp; try omega) (own_lower own8 HB1.out) (fun s hs => ?_), ?_, fun j hj => Nat.le_trans hz (own8.lt j hj).1⟩
                        · rcases mem_insS.1 hs with rfl | hs
                          · exact OD.nil _ _
                          · have o := HT1.out.2.2.2 s hs
                            exact o.step fun j hj => hk8 j (o.1.lt j hj).2
                        · refine Frm.setCell (HFR.out.trans ⟨?_, ?_, ?_, by have := g8.size; omega, fun j hj _ => hk8 j hj⟩) _ _ (.inl (.inl rfl))
                          · rw [g8.os, g7.os]; exact G6.out.os
                          · rw [g8.tape, g7.tape]; exact G6.out.tape
                          · rw [g8.output, g7.output]; exact G6.out.output)); clear own7 own7' g7 own8 g8 hk7 hk8 z7 hn8)
                  | (at_builtin; refine wpList_append_run rfl (.tmp 70) (.tmp 76) rfl rfl _ _ rfl rfl _ _ run8 ?_))
                go_ret2
                refine ⟨by rw [goneR_ok HE.out, HE.out, HGN.out]; rfl, _, clock + 1, insS ⟨x, 0, clock + 1, none, 0, []⟩ ls, HFIN.out.1, .inr ⟨HE.out, rfl, ?_⟩, HFIN.out.2.1, fun j hj => .inr (HFIN.out.2.2 j hj)⟩
                rw [HDS.out]

                refine (put_new fun s hs => ?_).symm
                exact HNM.out s hs
    · have e1 : openE ls x = 1 := by simp [openE, hf]
      have HE := Lib.hid e1
      have hk0 : (0 : Int) ≤ (k : Int) := by omega
      clear e1 hf
      go_wp2_with fail
      go_ret2
      exact ⟨_, clock, ls, by rw [goneR_ne (by rw [HE.out]; decide), HE.out]; rfl, T.out, .inl ⟨by rw [HE.out]; decide, rfl, rfl⟩, Frm.refl _ _, fun k hk => .inl hk⟩
end Go.Proofs.YtbdokphemdkhmaaDoor
