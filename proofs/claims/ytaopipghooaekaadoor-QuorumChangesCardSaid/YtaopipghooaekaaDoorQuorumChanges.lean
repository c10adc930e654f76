/- muntinlaw22.QuorumChanges: the walk. -/
import Derived.Test.YtaopipghooaekaaDoorQCopied
import Derived.Deep.RegionHeld3
import Derived.Deep.LoopGhost
set_option linter.unusedVariables false
set_option linter.unusedSimpArgs false
namespace Go.Proofs.YtaopipghooaekaaDoor
open Go.RowKit

/-- what the last region's loads read, and what its calls ask -/
theorem ch_keep {B : Nat} {A A2 : Option Addr} {n c n2 c2 : Nat} {ns ms : List Int} {w0 w w' : World} (b : Below w.heap.size w w')
    (h : w.cell? ⟨B, 0, none⟩ = some (.slice A n c) ∧ w.cell? ⟨B + 1, 0, none⟩ = some (.slice A2 n2 c2) ∧ RI w A ns ∧ RI w A2 ms ∧ ErrT w ∧ Below w0.heap.size w0 w) :
    w'.cell? ⟨B, 0, none⟩ = some (.slice A n c) ∧ w'.cell? ⟨B + 1, 0, none⟩ = some (.slice A2 n2 c2) ∧ RI w' A ns ∧ RI w' A2 ms ∧ ErrT w' ∧ Below w0.heap.size w0 w' :=
  ⟨below_cell b h.1, below_cell b h.2.1, h.2.2.1.below b, h.2.2.2.1.below b, h.2.2.2.2.1.below b, below_then h.2.2.2.2.2 h.2.2.2.2.2.size b⟩

set_option maxRecDepth 100000 in
set_option maxHeartbeats 2000000 in
theorem changes_walk (A : Option Addr) (n c : Nat) (ns : List Int) (A2 : Option Addr) (n2 c2 : Nat) (ms : List Int) (kind who : Int) (w : World) (hE : ErrT w)
    (hr : RI w A ns) (hl : ns.length = n) (hn : n ≤ 17592186044416) (hA : A = none → c = 0) (hr2 : RI w A2 ms) (hl2 : ms.length = n2) (hn2 : n2 ≤ 17592186044416) :
    Calls Tryd.prog 3 #[.agg #[.slice A n c], .agg #[.slice A2 n2 c2], .int .i64 kind, .int .i64 who] w fun e w' => e = .returned (.bool true) ∧ Below w.heap.size w w' := by
  obtain ⟨wb, hwb⟩ : ∃ wb, wb = (w.alloc (.cells #[.slice A n c] 24)).alloc (.cells #[.slice A2 n2 c2] 24) := ⟨_, rfl⟩
  have b : Below w.heap.size w wb := by rw [hwb]; exact (below_alloc w _).alloc (below_alloc w _).size _
  have hb1 : wb.cell? ⟨w.heap.size, 0, none⟩ = some (.slice A n c) ∧ wb.cell? ⟨w.heap.size + 1, 0, none⟩ = some (.slice A2 n2 c2) := by rw [hwb]; exact box_cell2r (Below.refl _ _)
  have hszb : w.heap.size + 1 < wb.heap.size := by rw [hwb]; simp
  obtain ⟨k, hk⟩ : ∃ k, k = (changeT ns kind who).1 := ⟨_, rfl⟩
  obtain ⟨xs, hxs⟩ : ∃ xs, xs = (changeT ns kind who).2 := ⟨_, rfl⟩
  obtain ⟨m, hm⟩ : ∃ m, m = xs.length := ⟨_, rfl⟩
  have hm5 : m ≤ 100 := by
    rw [hm, hxs]
    by_cases he : (changeT ns kind who).1 = 0
    · have hmm := change_meets he
      have hms1 : rightB (changeT ns kind who).2 = true := by have := hmm.2.1; simp only [meetB, Bool.and_eq_true] at this; exact this.1.1
      have := right_len hms1
      omega
    · have : (changeT ns kind who).2 = [] := by
        unfold changeT at he ⊢
        repeat' (split at he)
        all_goals simp_all
      rw [this]
      simp
  obtain ⟨E, hEE⟩ : ∃ E, E = errQ k := ⟨_, rfl⟩
  have HSM := Lib.hid (small_any wb)
  have HCP := Lib.hid fun (w1 : World) (h : Below wb.heap.size wb w1) => copied_any A n c ns w1 ((hr.below b).below h) hl hn hA
  have HCH := Lib.hid fun (w1 : World) (h : Below wb.heap.size wb w1) => (change_any A n c ns kind who w1 ((hr.below b).below h) hl (by omega)).mono fun e w' ⟨V, h1, ⟨A6, c6, h2, h3, h4, _, h6⟩, h5⟩ => (⟨A6, c6, by rw [h1, h2, hEE, hk, hm, hxs], by rw [hxs]; exact h3, by rw [hm, hxs]; exact h4, by rw [hm, hxs]; exact h6, h5⟩ : ∃ A6 c6, e = Ending.returned (.tuple #[.agg #[.slice A6 m c6], E]) ∧ RI w' A6 xs ∧ m ≤ c6 ∧ (∀ a, A6 = some a → w1.heap.size ≤ a.block ∧ ∀ j, j < m → w'.frozen? (a.add j) = false) ∧ Below w1.heap.size w1 w')
  have HRC := Lib.hid fun (w1 : World) (h : Below wb.heap.size wb w1) => (refchange_any A n c ns kind who w1 ((hr.below b).below h) hl (by omega)).mono fun e w' ⟨V, m', cv, h1, h2, h3, h4⟩ => (⟨V, cv, by rw [h1, ← h2, hk, hm, hxs], by rw [hxs]; exact h3, h4⟩ : ∃ V cv, e = Ending.returned (.tuple #[.agg #[.slice V m cv], .int .i64 k]) ∧ RI w' V xs ∧ Below w1.heap.size w1 w')
  obtain ⟨r, hr0⟩ : ∃ r, r = meetB ns ms := ⟨_, rfl⟩
  have HME := Lib.hid fun (w1 : World) (h1 : RI w1 A ns) (h2 : RI w1 A2 ms) => (show Calls Tryd.prog 11 #[.agg #[.slice A n c], .agg #[.slice A2 n2 c2]] w1 fun e w' => e = .returned (.bool r) ∧ Below w1.heap.size w1 w' from by rw [hr0]; exact meet_any A n c ns A2 n2 c2 ms w1 h1 hl (by omega) h2 hl2 (by omega))
  have HRM := Lib.hid fun (w1 : World) (h1 : RI w1 A ns) (h2 : RI w1 A2 ms) => (show Calls Tryd.prog 12 #[.agg #[.slice A n c], .agg #[.slice A2 n2 c2]] w1 fun e w' => e = .returned (.bool r) ∧ Below w1.heap.size w1 w' from by rw [hr0]; exact refmeet_any A n c ns A2 n2 c2 ms w1 h1 hl (by omega) h2 hl2 (by omega))
  have HCO := Lib.hid fun (w1 : World) (h : ErrT w1) => (show Calls Tryd.prog 10 #[E] w1 fun e w' => e = .returned (.int .i64 k) ∧ Below w1.heap.size w1 w' from by rw [hEE]; exact code_any k w1 h)
  have HEB := Lib.hid (hE.below b)
  have HRB := Lib.hid (hr.below b)
  have HRB2 := Lib.hid (hr2.below b)
  have HL := Lib.hid hl
  have HM := Lib.hid hm
  have HW := Lib.hid hwb
  have HB1 := Lib.hid hb1
  clear hE hr hl hA hr2 hl2 hwb hb1 hk hxs hm hEE hr0
  go_enter Tryd.func3, Tryd.ntmps3
  go_upto_region 1 with fail
  rw [← HW.out]
  go_wp2_with (first
    | (go_at_call 5; refine HSM.out.mono ?_; rintro e w1 ⟨rfl, b1⟩; (have k1 := below_cell b1 HB1.out.1))
    | (go_at_call 6; refine (HCP.out _ b1).mono ?_; rintro e w2 ⟨V2, cv2, rfl, own2, b2⟩; (have b12 := below_then b1 b1.size b2); (have hb3 := below_alloc w2 (.cells #[.slice V2 n cv2] 24)); (have b13 := below_then b12 b12.size hb3); (have k3 := below_cell b13 HB1.out.1); clear k1)
    | (go_at_call 7; refine (HCH.out _ b13).mono ?_; rintro e w3 ⟨A6, c6, rfl, r6, hc6, hA6, b3⟩; (have b33 := below_then b13 b13.size b3); (have hb4 := below_alloc w3 (.cells #[.slice A6 m c6] 24)); (have b34 := below_then b33 b33.size hb4); (have k4 := below_cell b34 HB1.out.1); clear k3)
    | (go_at_call 8; refine (HRC.out _ b34).mono ?_; rintro e w4 ⟨V7, c7, rfl, r7, b4⟩; (have b44 := below_then b34 b34.size b4); (have hb5 := below_alloc w4 (.cells #[.slice V7 m c7] 24)); (have b45 := below_then b44 b44.size hb5); (have k5 := below_cell (below_then b4 b4.size hb5) (show (w3.alloc (.cells #[.slice A6 m c6] 24)).cell? ⟨w3.heap.size, 0, none⟩ = some (.slice A6 m c6) by rw [World.cell?_alloc_at _ _ _ _ rfl]; rfl)); clear k4)
    | (go_at_call 9; refine (same_eq A6 m c6 xs V7 c7 xs _ ((r6.below hb4).below (below_then b4 b4.size hb5)) HM.out.symm (by omega) (r7.below hb5) HM.out.symm).mono ?_; rw [decide_eq_true rfl]; rintro e w5 ⟨rfl, b5⟩))
  have B5 := below_then b45 b45.size b5
  have k6 := below_cell b5 k5
  have e2 := b12.size
  have e3 := b33.size
  have e33 := b3.size
  have e4 := b4.size
  have e5 := b5.size
  have ew := b.size
  simp only [heap_size_alloc] at e33 e4 e5
  obtain ⟨gx, ox, hgx, hglo, hghi, hgb⟩ : ∃ gx ox, (0 < m → A6 = some ⟨gx, ox, none⟩) ∧ w2.heap.size + 1 ≤ gx ∧ gx ≠ w3.heap.size ∧ (0 < m → gx < w3.heap.size) := by
    by_cases h0 : 0 < m
    · obtain ⟨g, o, e, hlt, -⟩ := r6.addr (by rw [← HM.out]; exact h0)
      refine ⟨g, o, fun _ => e, ?_, by omega, fun _ => hlt⟩
      have := (hA6 _ e).1
      simpa using this
    · exact ⟨w3.heap.size + 1, 0, fun h => absurd h h0, by omega, by omega, fun h => absurd h h0⟩
  have HWR := Lib.hid (show 0 < m → WR w5 gx ox m from fun h0 => by
    have ea := hgx h0
    intro j hj
    obtain ⟨g, o, e, hlt, hc⟩ := r6.addr (by rw [← HM.out]; exact h0)
    rw [ea] at e
    cases e
    have b35 := below_then (below_then hb4 hb4.size (below_then b4 b4.size hb5)) (below_then hb4 hb4.size (below_then b4 b4.size hb5)).size b5
    refine ⟨⟨_, below_cell b35 (hc j (by rw [← HM.out]; exact hj))⟩, ?_⟩
    have hf := (hA6 _ ea).2 j hj
    rw [Addr.add_lit] at hf
    rw [World.frozen?_of_block (w := w3) (b35.block _ hlt)]
    exact hf)
  have HGX := Lib.hid hgx
  have HC5 := Lib.hid (below_cell B5 HB1.out.1)
  have HC5b := Lib.hid (below_cell B5 HB1.out.2)
  have HR5 := Lib.hid (HRB.out.below B5)
  have HR52 := Lib.hid (HRB2.out.below B5)
  have HE5 := Lib.hid (HEB.out.below B5)
  have B2 := below_then (below_then b3 b3.size hb4) (below_then b3 b3.size hb4).size (below_then b4 b4.size hb5)
  have B25 := below_then B2 B2.size b5
  have HR2 := Lib.hid (show RI w5 V2 ns from ((RI.own own2).below hb3).below B25)
  have HR2L := Lib.hid (show ∀ a, V2 = some a → 0 < ns.length → a.block < w2.heap.size from fun a ha h0 => (RI.own own2).lt ha h0)
  have HK10 := Lib.hid (show w5.cell? ⟨w2.heap.size, 0, none⟩ = some (.slice V2 n cv2) from below_cell B25 (by rw [World.cell?_alloc_at _ _ _ _ rfl]; rfl))
  have HRL := Lib.hid (show ∀ a, A = some a → 0 < ns.length → a.block < wb.heap.size from fun a ha h0 => HRB.out.lt ha h0)
  have HRL2 := Lib.hid (show ∀ a, A2 = some a → 0 < ms.length → a.block < wb.heap.size from fun a ha h0 => HRB2.out.lt ha h0)
  have e12 : wb.heap.size ≤ w2.heap.size := b12.size
  clear hgx own2 b1 b2 b12 hb3 b13 r6 hA6 b3 b33 hb4 b34 r7 b4 b44 hb5 b45 k5 b5 B2 B25 hc6
  go_loopg [16] m (fun q ii wr => ∃ i : Nat, q = m - i ∧ i ≤ m ∧ ii = .int .i64 i ∧ w5.grownBy wr (some gx) ∧ Hid (0 < m → WR wr gx ox m))
  case atStart => exact ⟨0, by omega, by omega, rfl, ⟨rfl, rfl, rfl, Nat.le_refl _, fun _ _ _ => rfl⟩, HWR⟩
  case round =>
    obtain ⟨i, hq, hi, rfl, gr, HWr⟩ := hrel
    have k7 := cell_grown gr k6 (by simp only; omega)
    by_cases him : i < m
    · have hi1 : (i : Int) < (m : Int) := by omega
      obtain ⟨⟨u, hu⟩, hf⟩ := HWr.out (by omega) i him
      have hA6 := HGX.out (by omega)
      subst hA6
      go_wp2_with fail
      go_roundg (m - (i + 1))
      case measure => omega
      case rel => exact ⟨i + 1, rfl, by omega, by go_num, grown_set gr _ _ rfl, Lib.hid fun h0 => (HWr.out h0).set _ _⟩
    · obtain rfl : i = m := by omega
      have q0 := cell_grown gr HC5.out (by simp only; omega)
      have q1 := cell_grown gr HK10.out (by simp only; omega)
      have r1 : RI wr A ns := HR5.out.grown gr (fun a ha h0 => by have := HRL.out a ha h0; omega)
      have r2 : RI wr V2 ns := HR2.out.grown gr (fun a ha h0 => by have := HR2L.out a ha h0; omega)
      have r3 : RI wr A2 ms := HR52.out.grown gr (fun a ha h0 => by have := HRL2.out a ha h0; omega)
      have q5 := cell_grown gr HC5b.out (by simp only; omega)
      have hE6 : ErrT wr := cell_grown gr HE5.out (by have := World.block_lt_of_cell? _ _ HE5.out; simp only at this ⊢; omega)
      have BW : Below w.heap.size w wr := (b.trans (B5.mono b.size)).grown gr (Nat.le_trans b.size B5.size) (fun k hk => by simp at hk; omega)
      have HS2 := Lib.hid (same_eq A n c ns V2 cv2 ns wr r1 HL.out (by omega) r2 HL.out)
      rw [decide_eq_true rfl] at HS2
      go_wp2_with (go_at_call 9; refine HS2.out.mono ?_; rintro e w6 ⟨rfl, b6⟩)
      have hT : w6.drew.cell? ⟨w.heap.size, 0, none⟩ = some (.slice A n c) ∧ w6.drew.cell? ⟨w.heap.size + 1, 0, none⟩ = some (.slice A2 n2 c2) ∧ RI w6.drew A ns ∧ RI w6.drew A2 ms ∧ ErrT w6.drew ∧ Below w.heap.size w w6.drew := by
        have hb : Below wr.heap.size wr w6.drew := b6.drew
        exact ⟨below_cell hb q0, below_cell hb q5, r1.below hb, r3.below hb, hE6.below hb, below_then BW BW.size hb⟩
      clear q0 q1 r1 r2 r3 q5 hE6 k6 k7 HGX HWr
      go_region_held3 (fun w' => w'.cell? ⟨w.heap.size, 0, none⟩ = some (.slice A n c) ∧ w'.cell? ⟨w.heap.size + 1, 0, none⟩ = some (.slice A2 n2 c2) ∧ RI w' A ns ∧ RI w' A2 ms ∧ ErrT w' ∧ Below w.heap.size w w')
        (first | assumption | exact ch_keep (by assumption) (by assumption))
        (first
          | (go_at_call 10; refine (HCO.out _ (by go_split_ands; assumption)).mono ?_; rintro e w7 ⟨rfl, b7⟩)
          | (go_at_call 11; refine (HME.out _ (by go_split_ands; assumption) (by go_split_ands; assumption)).mono ?_; rintro e w8 ⟨rfl, b8⟩)
          | (go_at_call 12; refine (HRM.out _ (by go_split_ands; assumption) (by go_split_ands; assumption)).mono ?_; rintro e w9 ⟨rfl, b9⟩))
      all_goals
        go_split_ands
        go_wp2_with fail
        go_ret
        refine ⟨?_, by assumption⟩
        first | rfl | simp

theorem quorumChanges_row (A : Option Addr) (c : Nat) (ns : List Int) (A2 : Option Addr) (c2 : Nat) (ms : List Int) (kind who : Int) (w : World)
    (hl : ns.length ≤ c) (hn : c ≤ 17592186044416) (hr : RI w A ns) (hA : A = none → c = 0) (hl2 : ms.length ≤ c2) (hn2 : c2 ≤ 17592186044416) (hr2 : RI w A2 ms) (hA2 : A2 = none → c2 = 0) (w1 : (Lit.int .i64 kind).wf = true) (w2 : (Lit.int .i64 who).wf = true) (hE : ErrT w) :
    Calls Tryd.prog 3 #[.agg #[.slice A ns.length c], .agg #[.slice A2 ms.length c2], .int .i64 kind, .int .i64 who] w fun e w' => e = .returned (.bool true) ∧ Below w.heap.size w w' :=
  changes_walk A _ c ns A2 _ c2 ms kind who w hE hr rfl (by omega) hA hr2 rfl (by omega)
end Go.Proofs.YtaopipghooaekaaDoor
