/- muntinlaw22.QuorumTells: the walk. -/
import Derived.Test.YtaopipghooaekaaDoorQRead
import Derived.Test.YtaopipghooaekaaDoorOwnedLit
import Derived.Test.YtaopipghooaekaaDoorHeldZ
import Derived.Test.YtaopipghooaekaaDoorCodeAny
import Derived.Test.YtaopipghooaekaaDoorQCopied
import Derived.Test.YtaopipghooaekaaDoorQRefAgreed
import Derived.Test.YtaopipghooaekaaDoorQAgreed
import Derived.Deep.RegionHeld3
import Derived.Outline
set_option linter.unusedVariables false
set_option linter.unusedSimpArgs false
namespace Go.Proofs.YtaopipghooaekaaDoor
open Go.RowKit

set_option maxRecDepth 100000 in
set_option maxHeartbeats 2000000 in
theorem refHas_any (A : Option Addr) (n c : Nat) (ns : List Int) (x : Int) (w : World) (hr : RI w A ns) (hl : ns.length = n) (hn : n ≤ 100000000000000) :
    Calls Tryd.prog 24 #[.agg #[.slice A n c], .int .i64 x] w fun e w' => e = .returned (.bool (ns.contains x)) ∧ Below w.heap.size w w' := by
  have b := below_alloc w (.cells #[.slice A n c] 24)
  have HC := Lib.hid (refhas_any A n c ns x _ (hr.below b) hl hn)
  obtain ⟨r, hrr⟩ : ∃ r, r = ns.contains x := ⟨_, rfl⟩
  rw [← hrr] at HC
  rw [← hrr]
  clear hr hl hrr
  go_enter Tryd.func24, Tryd.ntmps24
  go_wp2_with (go_at_call 36; refine HC.out.mono ?_; rintro e w1 ⟨rfl, rfl⟩)
  go_ret
  exact ⟨rfl, b⟩
theorem readV_small {bs : List UInt8} {m : Nat} (h : (readV bs).length = m) : m ≤ 100000000000000 := by
  unfold readV readB at h
  split at h
  · rename_i h1
    simp only [Bool.and_eq_true, decide_eq_true_eq] at h1
    rw [numsI_len] at h
    omega
  · simp at h; omega
theorem cell_top (w : World) (v : Value) : (w.alloc (.cells #[v] 24)).cell? ⟨w.heap.size, 0, none⟩ = some v := by rw [World.cell?_alloc_at _ _ _ _ rfl]; rfl
theorem lent_at (A : Option Addr) (c : Nat) (bs : List UInt8) (w : World) (hn : bs.length ≤ 140737488351232) (hr : RB w A bs) :
    Calls Tryd.prog 13 #[.slice A bs.length c] w fun e w' => ∃ g, e = .returned (.slice (some ⟨g, 0, none⟩) bs.length (bs.length + 1)) ∧ RB w' (some ⟨g, 0, none⟩) bs ∧ w'.cell? ⟨g, bs.length, none⟩ = some (.int .u8 77) ∧
      w'.ownsRow w.heap.size 5 1 (.slice (some ⟨g, 0, none⟩) bs.length (bs.length + 1)) bs.length (bv bs) ∧ Below w.heap.size w w' := by
  refine (lent_any A c bs w hn hr).mono ?_
  rintro e w' ⟨rfl, rfl⟩
  exact ⟨_, rfl, RB.new _ _ _ _, cell_new _ _ _ _ _ (by simp), ⟨by simp, .inr ⟨w.heap.size, bs.length + 1, mem (bv bs ++ [Value.int .u8 77]), rfl, Nat.le_refl _, heap_alloc_new _ _, by omega, by unfold maxLen; omega, by simp, by rw [mem_toList, List.take_append_of_le_length (by simp), List.take_of_length_le (by simp)]⟩⟩, below_alloc _ _⟩

set_option maxRecDepth 100000 in
set_option maxHeartbeats 2000000 in
theorem tells_walk (A : Option Addr) (n c : Nat) (ns : List Int) (A2 : Option Addr) (n2 c2 : Nat) (bs : List UInt8) (A3 : Option Addr) (n3 c3 : Nat) (ks : List Int) (A4 : Option Addr) (n4 c4 : Nat) (ms : List (Int × Int)) (who : Int) (w : World) (hE : ErrT w)
    (hr : RI w A ns) (hl : ns.length = n) (hn : n ≤ 17592186044416) (hA : A = none → c = 0) (hr2 : RB w A2 bs) (hl2 : bs.length = n2) (hn2 : n2 ≤ 140737488351232) (hc2 : n2 ≤ c2)
    (hr3 : RI w A3 ks) (hl3 : ks.length = n3) (hn3 : n3 ≤ 17592186044416) (hr4 : RM w A4 ms) (hl4 : ms.length = n4) (hn4 : n4 ≤ 10000000000000) :
    Calls Tryd.prog 4 #[.agg #[.slice A n c], .slice A2 n2 c2, .slice A3 n3 c3, .slice A4 n4 c4, .int .i64 who] w fun e w' => e = .returned (.bool true) ∧ Below w.heap.size w w' := by
  obtain ⟨wb, hwb⟩ : ∃ wb, wb = w.alloc (.cells #[.slice A n c] 24) := ⟨_, rfl⟩
  have b : Below w.heap.size w wb := by rw [hwb]; exact below_alloc w _
  have hb1 : wb.cell? ⟨w.heap.size, 0, none⟩ = some (.slice A n c) := by rw [hwb]; exact box_cell (Below.refl _ _)
  subst hl2
  have HSM := Lib.hid (small_any wb)
  have HCP := Lib.hid fun (w1 : World) (h : Below wb.heap.size wb w1) => copied_any A n c ns w1 ((hr.below b).below h) hl hn hA
  have HRG := Lib.hid fun (w1 : World) (h : Below wb.heap.size wb w1) => right_any A n c ns w1 ((hr.below b).below h) hl (by omega)
  have HBY := Lib.hid fun (w1 : World) (h : Below wb.heap.size wb w1) => bytes_any A n c ns w1 ((hr.below b).below h) hl (by omega)
  have HRR := Lib.hid fun (w1 : World) (h : Below wb.heap.size wb w1) => refright_any A n c ns w1 ((hr.below b).below h) hl (by omega)
  have HRBY := Lib.hid fun (w1 : World) (h : Below wb.heap.size wb w1) => refbytes_any A n c ns w1 ((hr.below b).below h) hl (by omega)
  have HRRD := Lib.hid fun (w1 : World) (h : Below wb.heap.size wb w1) => rread_any A2 bs.length c2 bs w1 ((hr2.below b).below h) rfl hc2 hn2
  have HRD := Lib.hid fun (w0 w1 : World) (g : Nat) (h : Below w0.heap.size w0 w1) (hg : RB w0 (some ⟨g, 0, none⟩) bs) => read_any (some ⟨g, 0, none⟩) bs.length (bs.length + 1) bs w1 (hg.below h) rfl (by omega) hn2
  have HLN := Lib.hid fun (w1 : World) (h : Below wb.heap.size wb w1) => lent_at A2 c2 bs w1 hn2 ((hr2.below b).below h)
  obtain ⟨r1, hr1⟩ : ∃ r, r = wonB ns ks := ⟨_, rfl⟩
  obtain ⟨r2, hr02⟩ : ∃ r, r = ns.contains who := ⟨_, rfl⟩
  have HWN := Lib.hid fun (w1 : World) (h : Below wb.heap.size wb w1) => (show Calls Tryd.prog 21 #[.agg #[.slice A n c], .slice A3 n3 c3] w1 fun e w' => e = .returned (.bool r1) ∧ Below w1.heap.size w1 w' from by rw [hr1]; exact won_any A n c ns A3 n3 c3 ks w1 ((hr.below b).below h) hl (by omega) ((hr3.below b).below h) hl3 (by omega))
  have HRW := Lib.hid fun (w1 : World) (h : Below wb.heap.size wb w1) => (show Calls Tryd.prog 22 #[.agg #[.slice A n c], .slice A3 n3 c3] w1 fun e w' => e = .returned (.bool r1) ∧ Below w1.heap.size w1 w' from by rw [hr1]; exact refwon_any A n c ns A3 n3 c3 ks w1 ((hr.below b).below h) hl (by omega) ((hr3.below b).below h) hl3 (by omega))
  have HHS := Lib.hid fun (w1 : World) (h : Below wb.heap.size wb w1) => (show Calls Tryd.prog 23 #[.agg #[.slice A n c], .int .i64 who] w1 fun e w' => e = .returned (.bool r2) ∧ Below w1.heap.size w1 w' from by rw [hr02]; exact has_any A n c ns who w1 ((hr.below b).below h) hl (by omega))
  have HRH := Lib.hid fun (w1 : World) (h : Below wb.heap.size wb w1) => (show Calls Tryd.prog 24 #[.agg #[.slice A n c], .int .i64 who] w1 fun e w' => e = .returned (.bool r2) ∧ Below w1.heap.size w1 w' from by rw [hr02]; exact refHas_any A n c ns who w1 ((hr.below b).below h) hl (by omega))
  have hrr1 : (r1 == r1) = true := by simp
  have hrr2 : (r2 == r2) = true := by simp
  clear hr1 hr02
  have HEB := Lib.hid (hE.below b)
  have HW := Lib.hid hwb
  have HB1 := Lib.hid hb1
  have HR1 := Lib.hid (hr.below b)
  have HR2 := Lib.hid (hr2.below b)
  have HR3 := Lib.hid (hr3.below b)
  have HR4 := Lib.hid (hr4.below b)
  have HL := Lib.hid hl
  have HL3 := Lib.hid hl3
  have HL4 := Lib.hid hl4
  clear hwb hb1 hE hr hr2 hr3 hr4 hl hl3 hl4 hA
  go_enter Tryd.func4, Tryd.ntmps4
  go_upto_region 1 with fail
  rw [← HW.out]
  go_wp2_with (first
    | (go_at_call 5; refine HSM.out.mono ?_; rintro e w1 ⟨rfl, b1⟩; (have k1 := below_cell b1 HB1.out))
    | (go_at_call 6; refine (HCP.out _ b1).mono ?_; rintro e w2 ⟨V2, cv2, rfl, own2, b2⟩; (have b12 := below_then b1 b1.size b2); (have hb3 := below_alloc w2 (.cells #[.slice V2 n cv2] 24)); (have b13 := below_then b12 b12.size hb3); (have k3 := below_cell b13 HB1.out); clear k1)
    | (go_at_call 13; refine (HLN.out _ b13).mono ?_; rintro e w3 ⟨g, rfl, rin, cin, oin, b3⟩; (have b33 := below_then b13 b13.size b3); (have k4 := below_cell b33 HB1.out); clear k3)
    | (go_at_call 14; refine (HRG.out _ b33).mono ?_; rintro e w4 ⟨rfl, b4⟩; (have b44 := below_then b33 b33.size b4); (have k5 := below_cell b44 HB1.out); clear k4)
    | (go_at_call 15; refine (HBY.out _ b44).mono ?_; rintro e w5 ⟨Vp, mp, cp, rfl, hmp, op, b5⟩; (have b55 := below_then b44 b44.size b5); (have k6 := below_cell b55 HB1.out); (have d5 := below_then b4 b4.size b5); clear k5)
    | (go_at_call 16; refine (HRD.out _ _ g (below_then b4 b4.size b5) rin).mono ?_; rintro e w6 ⟨Vd, md, cd, rfl, hmd, rd, b6⟩; (have b66 := below_then b55 b55.size b6); (have hb7 := below_alloc w6 (.cells #[.slice Vd md cd] 24)); (have b77 := below_then b66 b66.size hb7); (have k7 := below_cell b77 HB1.out); (have e7 := below_then b6 b6.size hb7); (have d7 := below_then d5 d5.size e7); clear k6)
    | (go_at_call 17; refine (HRR.out _ b77).mono ?_; rintro e w8 ⟨rfl, b8⟩; (have b88 := below_then b77 b77.size b8); (have k8 := below_cell b88 HB1.out); (have d8 := below_then d7 d7.size b8); clear k7)
    | (go_at_call 18; refine (HRBY.out _ b88).mono ?_; rintro e w9 ⟨Vq, mq, cq, rfl, hmq, oq, b9⟩; (have b99 := below_then b88 b88.size b9); (have k9 := below_cell b99 HB1.out); (have d9 := below_then d8 d8.size b9); clear k8)
    | (go_at_call 19; refine (HRRD.out _ b99).mono ?_; rintro e w10 ⟨Vx, mx, cx, rfl, hmx, rx, b10⟩; (have b1010 := below_then b99 b99.size b10); (have hb11 := below_alloc w10 (.cells #[.slice Vx mx cx] 24)); (have b11 := below_then b1010 b1010.size hb11); (have k11 := below_cell b11 HB1.out); (have e11 := below_then b10 b10.size hb11); (have d11 := below_then d9 d9.size e11); clear k9)
    | (go_at_call 20; refine (kept_any _ _ (bs.length + 1) c2 bs _ g rfl (rin.below d11) (HR2.out.below b11) (Nat.le_refl _) hn2 (below_cell d11 cin)).mono ?_; rintro e w12 ⟨rfl, h12⟩; obtain rfl := h12.symm; (have f11 := below_then b3 b3.size d11); (have kW := below_cell f11 (cell_top w2 (.slice V2 n cv2))); (have g11 := below_then (below_then b8 b8.size b9) (below_then b8 b8.size b9).size e11); (have kD := below_cell g11 (cell_top w6 (.slice Vd md cd))); have kX := cell_top w10 (.slice Vx mx cx))
    | (go_at_call 9; have hS1 := bS; obtain rfl : md = mx := hmd.symm.trans hmx; refine (same_eq Vd md cd (readV bs) Vx cx (readV bs) _ (((rd.below hb7).below g11).below bS) hmd (readV_small hmd) ((rx.below hb11).below bS) hmd).mono ?_; rw [decide_eq_true rfl]; rintro e w14 ⟨rfl, bT⟩; (have b14 := below_then bSS bSS.size bT); (have k14 := below_cell b14 HB1.out))
    | (go_at_call 9; refine (same_eq A n c ns V2 cv2 ns _ (HR1.out.below b11) HL.out (by omega) ((RI.own own2).below (below_then hb3 hb3.size f11)) HL.out).mono ?_; rw [decide_eq_true rfl]; rintro e w13 ⟨rfl, bS⟩; (have bSS := below_then b11 b11.size bS); (have s1 := run_str w13 Vp (confT ns) cp (RB.own (own_below (own_below op (below_then b6 b6.size (below_then hb7 hb7.size g11))) bS)) 9 Tryd.underlying9); rw [hmp] at s1; (have s2 := run_str w13 Vq (confT ns) cq (RB.own (own_below (own_below oq e11) bS)) 9 Tryd.underlying9); rw [hmq] at s2; (have s3 : (confT ns == confT ns) = true := by simp); (have kW2 := below_cell bS kW); (have kD2 := below_cell bS kD); have kX2 := below_cell bS kX))
  have HT1 := Lib.hid (HR1.out.below b14)
  have HT3 := Lib.hid (HR3.out.below b14)
  have HT4 := Lib.hid (HR4.out.below b14)
  have HTE := Lib.hid (HEB.out.below b14)
  have hT : w14.drew.cell? ⟨w.heap.size, 0, none⟩ = some (.slice A n c) ∧ Below w14.heap.size w14 w14.drew := ⟨k14, (Below.refl _ _).drew⟩
  have D14 := Lib.hid (show Below w3.heap.size w3 w14 from below_then d11 d11.size (below_then bS bS.size bT))
  go_region_held3 (fun w' => w'.cell? ⟨w.heap.size, 0, none⟩ = some (.slice A n c) ∧ Below w14.heap.size w14 w')
    (first | assumption | exact ⟨below_cell (by assumption) (by go_split_ands; assumption), below_then (by go_split_ands; assumption) (by go_split_ands; exact Below.size (by assumption)) (by assumption)⟩)
    (first
      | (go_at_call 21; refine (HWN.out _ (below_then b14 b14.size (by go_split_ands; assumption))).mono ?_; rintro e w15 ⟨rfl, b15⟩)
      | (go_at_call 22; refine (HRW.out _ (below_then b14 b14.size (by go_split_ands; assumption))).mono ?_; rintro e w16 ⟨rfl, b16⟩)
      | (go_at_call 23; refine (HHS.out _ (below_then b14 b14.size (by go_split_ands; assumption))).mono ?_; rintro e w17 ⟨rfl, b17⟩)
      | (go_at_call 24; refine (HRH.out _ (below_then b14 b14.size (by go_split_ands; assumption))).mono ?_; rintro e w18 ⟨rfl, b18⟩))
  all_goals
    go_split_ands
    go_wp2_with fail
    have kz : w18.cell? ⟨w.heap.size, 0, none⟩ = some (.slice A n c) := by assumption
    have bz0 : Below w14.heap.size w14 w18 := by assumption
    have bz : Below wb.heap.size wb w18 := below_then b14 b14.size bz0
    obtain ⟨r3, hr03⟩ : ∃ r, r = agreedT ns ms := ⟨_, rfl⟩
    have HAG := Lib.hid fun (w1 : World) (h : Below wb.heap.size wb w1) => (show Calls Tryd.prog 25 #[.agg #[.slice A n c], .slice A4 n4 c4] w1 fun e w' => e = .returned (.int .i64 r3) ∧ Below w1.heap.size w1 w' from by rw [hr03]; exact agreed_any A n c ns A4 n4 c4 ms w1 (HR1.out.below h) HL.out (by omega) (HR4.out.below h) HL4.out (by omega))
    have hrr3 : (r3 == r3) = true := by simp
    clear hrr1 hrr2 HWN HRW HHS HRH
    by_cases hq : rightB ns = true
    · have HRA := Lib.hid fun (w1 : World) (h : Below wb.heap.size wb w1) => (show Calls Tryd.prog 26 #[.agg #[.slice A n c], .slice A4 n4 c4] w1 fun e w' => e = .returned (.int .i64 r3) ∧ Below w1.heap.size w1 w' from by rw [hr03]; exact refagreed_any A n c ns A4 n4 c4 ms w1 (HR1.out.below h) HL.out (HR4.out.below h) HL4.out (by omega) hq)
      have HQ := Lib.hid hq
      have HE0 := Lib.hid (rightE_ok hq)
      rw [hq]
      clear hq hr03
      refine wp_region_Z (fun w' => w'.cell? ⟨w.heap.size, 0, none⟩ = some (.slice A n c)) 20 (by kernel_rfl) kz (fun hHeld => ?_)
      refine wpAnyZ_take (i := 0) (v := ?_) rfl (by kernel_rfl) (by kernel_rfl) (by kernel_rfl) (by kernel_rfl) (by decide) (fun _ _ _ h => h) (by rfl) ?_ (by assumption) ?_
      rotate_left
      · (intro w hSw; (try dsimp only at hSw); go_simp) <;> with_reducible rfl
      try simp only [Act.put, List.getElem_toArray, List.getElem_cons_zero, List.getElem_cons_succ, List.setIfInBounds_toArray, List.set_cons_zero, List.set_cons_succ]
      refine wpAnyZ_take (i := 1) (v := ?_) rfl (by kernel_rfl) (by kernel_rfl) (by kernel_rfl) (by kernel_rfl) (by decide) (fun _ _ _ h => h) (by rfl) ?_ (by assumption) ?_
      rotate_left
      · (intro w hSw; (try dsimp only at hSw); go_simp) <;> with_reducible rfl
      try simp only [Act.put, List.getElem_toArray, List.getElem_cons_zero, List.getElem_cons_succ, List.setIfInBounds_toArray, List.set_cons_zero, List.set_cons_succ]
      refine wpAnyZ_take (i := 2) (v := ?_) rfl (by kernel_rfl) (by kernel_rfl) (by kernel_rfl) (by kernel_rfl) (by decide) (fun _ _ _ h => h) (by rfl) ?_ (by assumption) ?_
      rotate_left
      · (intro w hSw; (try dsimp only at hSw); go_simp) <;> with_reducible rfl
      try simp only [Act.put, List.getElem_toArray, List.getElem_cons_zero, List.getElem_cons_succ, List.setIfInBounds_toArray, List.set_cons_zero, List.set_cons_succ]
      refine wpAnyZ_skip (i := 3) rfl (by kernel_rfl) (by kernel_rfl) (by kernel_rfl) (by kernel_rfl) (by decide) (fun _ _ _ h => h) (by rfl) (by assumption) ?_
      try simp only [Act.put, List.getElem_toArray, List.getElem_cons_zero, List.getElem_cons_succ, List.setIfInBounds_toArray, List.set_cons_zero, List.set_cons_succ]
      refine wpAnyZ_skip (i := 4) rfl (by kernel_rfl) (by kernel_rfl) (by kernel_rfl) (by kernel_rfl) (by decide) (fun _ _ _ h => h) (by rfl) (by assumption) ?_
      try simp only [Act.put, List.getElem_toArray, List.getElem_cons_zero, List.getElem_cons_succ, List.setIfInBounds_toArray, List.set_cons_zero, List.set_cons_succ]
      refine wpAnyZ_skip (i := 5) rfl (by kernel_rfl) (by kernel_rfl) (by kernel_rfl) (by kernel_rfl) (by decide) (fun _ _ _ h => h) (by rfl) (by assumption) ?_
      try simp only [Act.put, List.getElem_toArray, List.getElem_cons_zero, List.getElem_cons_succ, List.setIfInBounds_toArray, List.set_cons_zero, List.set_cons_succ]
      refine wpAnyZ_skip (i := 6) rfl (by kernel_rfl) (by kernel_rfl) (by kernel_rfl) (by kernel_rfl) (by decide) (fun _ _ _ h => h) (by rfl) (by assumption) ?_
      try simp only [Act.put, List.getElem_toArray, List.getElem_cons_zero, List.getElem_cons_succ, List.setIfInBounds_toArray, List.set_cons_zero, List.set_cons_succ]
      refine wpAnyZ_take (i := 7) (v := ?_) rfl (by kernel_rfl) (by kernel_rfl) (by kernel_rfl) (by kernel_rfl) (by decide) (fun _ _ _ h => h) (by rfl) ?_ (by assumption) ?_
      rotate_left
      · (intro w hSw; (try dsimp only at hSw); go_simp) <;> with_reducible rfl
      try simp only [Act.put, List.getElem_toArray, List.getElem_cons_zero, List.getElem_cons_succ, List.setIfInBounds_toArray, List.set_cons_zero, List.set_cons_succ]
      refine wpAnyZ_take (i := 8) (v := ?_) rfl (by kernel_rfl) (by kernel_rfl) (by kernel_rfl) (by kernel_rfl) (by decide) (fun _ _ _ h => h) (by rfl) ?_ (by assumption) ?_
      rotate_left
      · (intro w hSw; (try dsimp only at hSw); go_simp) <;> with_reducible rfl
      try simp only [Act.put, List.getElem_toArray, List.getElem_cons_zero, List.getElem_cons_succ, List.setIfInBounds_toArray, List.set_cons_zero, List.set_cons_succ]
      refine wpAnyZ_take (i := 9) (v := ?_) rfl (by kernel_rfl) (by kernel_rfl) (by kernel_rfl) (by kernel_rfl) (by decide) (fun _ _ _ h => h) (by rfl) ?_ (by assumption) ?_
      rotate_left
      · (intro w hSw; (try dsimp only at hSw); go_simp) <;> with_reducible rfl
      try simp only [Act.put, List.getElem_toArray, List.getElem_cons_zero, List.getElem_cons_succ, List.setIfInBounds_toArray, List.set_cons_zero, List.set_cons_succ]
      refine wpAnyZ_take (i := 10) (v := ?_) rfl (by kernel_rfl) (by kernel_rfl) (by kernel_rfl) (by kernel_rfl) (by decide) (fun _ _ _ h => h) (by rfl) ?_ (by assumption) ?_
      rotate_left
      · (intro w hSw; (try dsimp only at hSw); go_simp) <;> with_reducible rfl
      try simp only [Act.put, List.getElem_toArray, List.getElem_cons_zero, List.getElem_cons_succ, List.setIfInBounds_toArray, List.set_cons_zero, List.set_cons_succ]
      refine wpAnyZ_take (i := 11) (v := ?_) rfl (by kernel_rfl) (by kernel_rfl) (by kernel_rfl) (by kernel_rfl) (by decide) (fun _ _ _ h => h) (by rfl) ?_ (by assumption) ?_
      rotate_left
      · (intro w hSw; (try dsimp only at hSw); go_simp) <;> with_reducible rfl
      try simp only [Act.put, List.getElem_toArray, List.getElem_cons_zero, List.getElem_cons_succ, List.setIfInBounds_toArray, List.set_cons_zero, List.set_cons_succ]
      refine wpAnyZ_take (i := 12) (v := ?_) rfl (by kernel_rfl) (by kernel_rfl) (by kernel_rfl) (by kernel_rfl) (by decide) (fun _ _ _ h => h) (by rfl) ?_ (by assumption) ?_
      rotate_left
      · (intro w hSw; (try dsimp only at hSw); go_simp) <;> with_reducible rfl
      try simp only [Act.put, List.getElem_toArray, List.getElem_cons_zero, List.getElem_cons_succ, List.setIfInBounds_toArray, List.set_cons_zero, List.set_cons_succ]
      refine wpAnyZ_take (i := 14) (v := ?_) rfl (by kernel_rfl) (by kernel_rfl) (by kernel_rfl) (by kernel_rfl) (by decide) (fun _ _ _ h => h) (by rfl) ?_ (by assumption) ?_
      rotate_left
      · (intro w hSw; (try dsimp only at hSw); go_simp) <;> with_reducible rfl
      try simp only [Act.put, List.getElem_toArray, List.getElem_cons_zero, List.getElem_cons_succ, List.setIfInBounds_toArray, List.set_cons_zero, List.set_cons_succ]
      refine wpAnyZ_take (i := 15) (v := ?_) rfl (by kernel_rfl) (by kernel_rfl) (by kernel_rfl) (by kernel_rfl) (by decide) (fun _ _ _ h => h) (by rfl) ?_ (by assumption) ?_
      rotate_left
      · (intro w hSw; (try dsimp only at hSw); go_simp) <;> with_reducible rfl
      try simp only [Act.put, List.getElem_toArray, List.getElem_cons_zero, List.getElem_cons_succ, List.setIfInBounds_toArray, List.set_cons_zero, List.set_cons_succ]
      refine wpAnyZ_step (i := 13) rfl (by kernel_rfl) (fun K hK => ?_)
      go_simp
      refine (HAG.out _ bz.drew).mono ?_
      rintro e w19 ⟨rfl, b19⟩
      have b19' := below_then bz.drew bz.drew.size b19
      have c19 := below_then bz0.drew bz0.drew.size b19
      have k19 : w19.cell? ⟨w.heap.size, 0, none⟩ = some (.slice A n c) := below_cell b19 hHeld
      refine hK.out _ _ (fun _ => k19) ?_
      clear hK K
      try simp only [Act.put, List.getElem_toArray, List.getElem_cons_zero, List.getElem_cons_succ, List.setIfInBounds_toArray, List.set_cons_zero, List.set_cons_succ]
      refine wpAnyZ_step (i := 16) rfl (by kernel_rfl) (fun K hK => ?_)
      go_simp
      refine (HRA.out _ b19').mono ?_
      rintro e w20 ⟨rfl, b20⟩
      have b20' := below_then b19' b19'.size b20
      have c20 := below_then c19 c19.size b20
      have k20 : w20.cell? ⟨w.heap.size, 0, none⟩ = some (.slice A n c) := below_cell b20 k19
      refine hK.out _ _ (fun _ => k20) ?_
      clear hK K
      try simp only [Act.put, List.getElem_toArray, List.getElem_cons_zero, List.getElem_cons_succ, List.setIfInBounds_toArray, List.set_cons_zero, List.set_cons_succ]
      refine wpAnyZ_take (i := 17) (v := ?_) rfl (by kernel_rfl) (by kernel_rfl) (by kernel_rfl) (by kernel_rfl) (by decide) (fun _ _ _ h => h) (by rfl) ?_ (by assumption) ?_
      rotate_left
      · (intro w hSw; (try dsimp only at hSw); go_simp) <;> with_reducible rfl
      try simp only [Act.put, List.getElem_toArray, List.getElem_cons_zero, List.getElem_cons_succ, List.setIfInBounds_toArray, List.set_cons_zero, List.set_cons_succ]
      refine wpAnyZ_take (i := 18) (v := ?_) rfl (by kernel_rfl) (by kernel_rfl) (by kernel_rfl) (by kernel_rfl) (by decide) (fun _ _ _ h => h) (by rfl) ?_ (by assumption) ?_
      rotate_left
      · (intro w hSw; (try dsimp only at hSw); go_simp) <;> with_reducible rfl
      try simp only [Act.put, List.getElem_toArray, List.getElem_cons_zero, List.getElem_cons_succ, List.setIfInBounds_toArray, List.set_cons_zero, List.set_cons_succ]
      refine wpAnyZ_take (i := 19) (v := ?_) rfl (by kernel_rfl) (by kernel_rfl) (by kernel_rfl) (by kernel_rfl) (by decide) (fun _ _ _ h => h) (by rfl) ?_ (by assumption) ?_
      rotate_left
      · (intro w hSw; (try dsimp only at hSw); go_simp) <;> with_reducible rfl
      try simp only [Act.put, List.getElem_toArray, List.getElem_cons_zero, List.getElem_cons_succ, List.setIfInBounds_toArray, List.set_cons_zero, List.set_cons_succ]
      refine wpAnyZ_step (i := 20) rfl (by kernel_rfl) (fun K hK => ?_)
      go_simp
      refine hK.out _ _ (fun h => absurd rfl h) ?_
      clear hK K
      try simp only [Act.put, List.getElem_toArray, List.getElem_cons_zero, List.getElem_cons_succ, List.setIfInBounds_toArray, List.set_cons_zero, List.set_cons_succ]
      refine wpAnyZ_done (by kernel_rfl) ?_
      refine NoPanic.normal ?_
      have dd := below_then D14.out D14.out.size c20
      have oI := own_below oin dd
      have oP := own_below (own_below op (below_then b6 b6.size (below_then hb7 hb7.size (below_then (below_then b8 b8.size b9) (below_then b8 b8.size b9).size e11)))) (below_then (below_then bS bS.size bT) (below_then bS bS.size bT).size c20)
      have hap := own_apart0 oin op (b4.size)
      have hpw : [Value.slice Vp mp cp, .slice (some ⟨g, 0, none⟩) bs.length (bs.length + 1)].Pairwise fun u v => ∀ k, u.ownBlock = some k → v.ownBlock ≠ some k := by
        simp only [List.pairwise_cons, List.mem_singleton, forall_eq, List.not_mem_nil, false_implies, implies_true, List.Pairwise.nil, and_true]
        exact fun k h1 h2 => hap k h2 h1
      have HOW := Lib.hid (owned_lit [Value.slice Vp mp cp, .slice (some ⟨g, 0, none⟩) bs.length (bs.length + 1)] #[Value.slice Vp mp cp, .slice (some ⟨g, 0, none⟩) bs.length (bs.length + 1)] 2 w20 rfl rfl (by omega)
        (fun v hv => by simp only [List.mem_cons, List.not_mem_nil, or_false] at hv; rcases hv with rfl | rfl <;> first | exact Room.own oP | exact Room.own oI) hpw)
      have hge : ∀ k, OwnB [Value.slice Vp mp cp, .slice (some ⟨g, 0, none⟩) bs.length (bs.length + 1)] k → wb.heap.size ≤ k := by
        rintro k ⟨v, hv, hk⟩
        simp only [List.mem_cons, List.not_mem_nil, or_false] at hv
        rcases hv with rfl | rfl
        · have h1 := (op.lt k hk).1
          have h2 := b44.size
          omega
        · have h1 := (oin.lt k hk).1
          have h2 := b13.size
          omega
      have bA := below_alloc w20 (.cells #[Value.slice Vp mp cp, .slice (some ⟨g, 0, none⟩) bs.length (bs.length + 1)] 37)
      have HBB := Lib.hid (below_then b20' b20'.size bA)
      have HCQ := Lib.hid fun (w1 : World) (h : ErrT w1) => (show Calls Tryd.prog 10 #[errQ 0] w1 fun e w' => e = .returned (.int .i64 0) ∧ Below w1.heap.size w1 w' from code_any 0 w1 h)
      have HCR := Lib.hid fun (w1 : World) (h : ErrT w1) => code_any (readE bs) w1 h
      have hke : ((readE bs : Int) == (readE bs : Int)) = true := by simp
      rw [HE0.out]
      clear hap hpw oI oP bA dd
      go_wp2_with (first
        | (go_at_call 27; refine HOW.out.mono ?_; rintro e w22 ⟨rfl, o22, -⟩; (have B22 := o22.below HBB.out hge); (have E22 : ErrT w22 := HEB.out.below B22))
        | (go_at_call 10; have h24 := E24; refine (HCR.out _ E24).mono ?_; rintro e w25 ⟨rfl, b25⟩; (have B25 := below_then B24 B24.size b25); clear E24 HCR)
        | (go_at_call 10; have h23 := E23; refine (HCQ.out _ E23).mono ?_; rintro e w24 ⟨rfl, b24⟩; (have B24 := below_then B23 B23.size b24); (have E24 := E23.below b24); clear E23)
        | (go_at_call 10; refine (HCQ.out _ E22).mono ?_; rintro e w23 ⟨rfl, b23⟩; (have B23 := below_then B22 B22.size b23); (have E23 := E22.below b23); clear E22))
      go_ret
      exact ⟨rfl, below_then b b.size B25⟩
    · have hq2 : rightB ns = false := by simpa using hq
      have HQ := Lib.hid hq2
      have HE0 := Lib.hid (rightE_no hq2)
      obtain rfl : r3 = 0 := by rw [hr03, agreedT_no hq2]
      rw [hq2]
      clear hq hq2 hr03
      refine wp_region_Z (fun w' => w'.cell? ⟨w.heap.size, 0, none⟩ = some (.slice A n c)) 20 (by kernel_rfl) kz (fun hHeld => ?_)
      refine wpAnyZ_take (i := 0) (v := ?_) rfl (by kernel_rfl) (by kernel_rfl) (by kernel_rfl) (by kernel_rfl) (by decide) (fun _ _ _ h => h) (by rfl) ?_ (by assumption) ?_
      rotate_left
      · (intro w hSw; (try dsimp only at hSw); go_simp) <;> with_reducible rfl
      try simp only [Act.put, List.getElem_toArray, List.getElem_cons_zero, List.getElem_cons_succ, List.setIfInBounds_toArray, List.set_cons_zero, List.set_cons_succ]
      refine wpAnyZ_take (i := 1) (v := ?_) rfl (by kernel_rfl) (by kernel_rfl) (by kernel_rfl) (by kernel_rfl) (by decide) (fun _ _ _ h => h) (by rfl) ?_ (by assumption) ?_
      rotate_left
      · (intro w hSw; (try dsimp only at hSw); go_simp) <;> with_reducible rfl
      try simp only [Act.put, List.getElem_toArray, List.getElem_cons_zero, List.getElem_cons_succ, List.setIfInBounds_toArray, List.set_cons_zero, List.set_cons_succ]
      refine wpAnyZ_take (i := 2) (v := ?_) rfl (by kernel_rfl) (by kernel_rfl) (by kernel_rfl) (by kernel_rfl) (by decide) (fun _ _ _ h => h) (by rfl) ?_ (by assumption) ?_
      rotate_left
      · (intro w hSw; (try dsimp only at hSw); go_simp) <;> with_reducible rfl
      try simp only [Act.put, List.getElem_toArray, List.getElem_cons_zero, List.getElem_cons_succ, List.setIfInBounds_toArray, List.set_cons_zero, List.set_cons_succ]
      refine wpAnyZ_take (i := 3) (v := ?_) rfl (by kernel_rfl) (by kernel_rfl) (by kernel_rfl) (by kernel_rfl) (by decide) (fun _ _ _ h => h) (by rfl) ?_ (by assumption) ?_
      rotate_left
      · (intro w hSw; (try dsimp only at hSw); go_simp) <;> with_reducible rfl
      try simp only [Act.put, List.getElem_toArray, List.getElem_cons_zero, List.getElem_cons_succ, List.setIfInBounds_toArray, List.set_cons_zero, List.set_cons_succ]
      refine wpAnyZ_take (i := 4) (v := ?_) rfl (by kernel_rfl) (by kernel_rfl) (by kernel_rfl) (by kernel_rfl) (by decide) (fun _ _ _ h => h) (by rfl) ?_ (by assumption) ?_
      rotate_left
      · (intro w hSw; (try dsimp only at hSw); go_simp) <;> with_reducible rfl
      try simp only [Act.put, List.getElem_toArray, List.getElem_cons_zero, List.getElem_cons_succ, List.setIfInBounds_toArray, List.set_cons_zero, List.set_cons_succ]
      refine wpAnyZ_step (i := 5) rfl (by kernel_rfl) (fun K hK => ?_)
      go_simp
      refine (HAG.out _ bz.drew).mono ?_
      rintro e w19 ⟨rfl, b19⟩
      have b19' := below_then bz.drew bz.drew.size b19
      have c19 := below_then bz0.drew bz0.drew.size b19
      have k19 : w19.cell? ⟨w.heap.size, 0, none⟩ = some (.slice A n c) := below_cell b19 hHeld
      refine hK.out _ _ (fun _ => k19) ?_
      clear hK K
      try simp only [Act.put, List.getElem_toArray, List.getElem_cons_zero, List.getElem_cons_succ, List.setIfInBounds_toArray, List.set_cons_zero, List.set_cons_succ]
      refine wpAnyZ_take (i := 6) (v := ?_) rfl (by kernel_rfl) (by kernel_rfl) (by kernel_rfl) (by kernel_rfl) (by decide) (fun _ _ _ h => h) (by rfl) ?_ (by assumption) ?_
      rotate_left
      · (intro w hSw; (try dsimp only at hSw); go_simp) <;> with_reducible rfl
      try simp only [Act.put, List.getElem_toArray, List.getElem_cons_zero, List.getElem_cons_succ, List.setIfInBounds_toArray, List.set_cons_zero, List.set_cons_succ]
      refine wpAnyZ_take (i := 7) (v := ?_) rfl (by kernel_rfl) (by kernel_rfl) (by kernel_rfl) (by kernel_rfl) (by decide) (fun _ _ _ h => h) (by rfl) ?_ (by assumption) ?_
      rotate_left
      · (intro w hSw; (try dsimp only at hSw); go_simp) <;> with_reducible rfl
      try simp only [Act.put, List.getElem_toArray, List.getElem_cons_zero, List.getElem_cons_succ, List.setIfInBounds_toArray, List.set_cons_zero, List.set_cons_succ]
      refine wpAnyZ_take (i := 8) (v := ?_) rfl (by kernel_rfl) (by kernel_rfl) (by kernel_rfl) (by kernel_rfl) (by decide) (fun _ _ _ h => h) (by rfl) ?_ (by assumption) ?_
      rotate_left
      · (intro w hSw; (try dsimp only at hSw); go_simp) <;> with_reducible rfl
      try simp only [Act.put, List.getElem_toArray, List.getElem_cons_zero, List.getElem_cons_succ, List.setIfInBounds_toArray, List.set_cons_zero, List.set_cons_succ]
      refine wpAnyZ_skip (i := 9) rfl (by kernel_rfl) (by kernel_rfl) (by kernel_rfl) (by kernel_rfl) (by decide) (fun _ _ _ h => h) (by rfl) (by assumption) ?_
      try simp only [Act.put, List.getElem_toArray, List.getElem_cons_zero, List.getElem_cons_succ, List.setIfInBounds_toArray, List.set_cons_zero, List.set_cons_succ]
      refine wpAnyZ_skip (i := 10) rfl (by kernel_rfl) (by kernel_rfl) (by kernel_rfl) (by kernel_rfl) (by decide) (fun _ _ _ h => h) (by rfl) (by assumption) ?_
      try simp only [Act.put, List.getElem_toArray, List.getElem_cons_zero, List.getElem_cons_succ, List.setIfInBounds_toArray, List.set_cons_zero, List.set_cons_succ]
      refine wpAnyZ_skip (i := 11) rfl (by kernel_rfl) (by kernel_rfl) (by kernel_rfl) (by kernel_rfl) (by decide) (fun _ _ _ h => h) (by rfl) (by assumption) ?_
      try simp only [Act.put, List.getElem_toArray, List.getElem_cons_zero, List.getElem_cons_succ, List.setIfInBounds_toArray, List.set_cons_zero, List.set_cons_succ]
      refine wpAnyZ_skip (i := 12) rfl (by kernel_rfl) (by kernel_rfl) (by kernel_rfl) (by kernel_rfl) (by decide) (fun _ _ _ h => h) (by rfl) (by assumption) ?_
      try simp only [Act.put, List.getElem_toArray, List.getElem_cons_zero, List.getElem_cons_succ, List.setIfInBounds_toArray, List.set_cons_zero, List.set_cons_succ]
      refine wpAnyZ_skip (i := 13) rfl (by kernel_rfl) (by kernel_rfl) (by kernel_rfl) (by kernel_rfl) (by decide) (fun _ _ _ h => h) (by rfl) (by assumption) ?_
      try simp only [Act.put, List.getElem_toArray, List.getElem_cons_zero, List.getElem_cons_succ, List.setIfInBounds_toArray, List.set_cons_zero, List.set_cons_succ]
      refine wpAnyZ_skip (i := 14) rfl (by kernel_rfl) (by kernel_rfl) (by kernel_rfl) (by kernel_rfl) (by decide) (fun _ _ _ h => h) (by rfl) (by assumption) ?_
      try simp only [Act.put, List.getElem_toArray, List.getElem_cons_zero, List.getElem_cons_succ, List.setIfInBounds_toArray, List.set_cons_zero, List.set_cons_succ]
      refine wpAnyZ_skip (i := 15) rfl (by kernel_rfl) (by kernel_rfl) (by kernel_rfl) (by kernel_rfl) (by decide) (fun _ _ _ h => h) (by rfl) (by assumption) ?_
      try simp only [Act.put, List.getElem_toArray, List.getElem_cons_zero, List.getElem_cons_succ, List.setIfInBounds_toArray, List.set_cons_zero, List.set_cons_succ]
      refine wpAnyZ_skip (i := 16) rfl (by kernel_rfl) (by kernel_rfl) (by kernel_rfl) (by kernel_rfl) (by decide) (fun _ _ _ h => h) (by rfl) (by assumption) ?_
      try simp only [Act.put, List.getElem_toArray, List.getElem_cons_zero, List.getElem_cons_succ, List.setIfInBounds_toArray, List.set_cons_zero, List.set_cons_succ]
      refine wpAnyZ_skip (i := 17) rfl (by kernel_rfl) (by kernel_rfl) (by kernel_rfl) (by kernel_rfl) (by decide) (fun _ _ _ h => h) (by rfl) (by assumption) ?_
      try simp only [Act.put, List.getElem_toArray, List.getElem_cons_zero, List.getElem_cons_succ, List.setIfInBounds_toArray, List.set_cons_zero, List.set_cons_succ]
      refine wpAnyZ_skip (i := 18) rfl (by kernel_rfl) (by kernel_rfl) (by kernel_rfl) (by kernel_rfl) (by decide) (fun _ _ _ h => h) (by rfl) (by assumption) ?_
      try simp only [Act.put, List.getElem_toArray, List.getElem_cons_zero, List.getElem_cons_succ, List.setIfInBounds_toArray, List.set_cons_zero, List.set_cons_succ]
      refine wpAnyZ_take (i := 19) (v := ?_) rfl (by kernel_rfl) (by kernel_rfl) (by kernel_rfl) (by kernel_rfl) (by decide) (fun _ _ _ h => h) (by rfl) ?_ (by assumption) ?_
      rotate_left
      · (intro w hSw; (try dsimp only at hSw); go_simp) <;> with_reducible rfl
      try simp only [Act.put, List.getElem_toArray, List.getElem_cons_zero, List.getElem_cons_succ, List.setIfInBounds_toArray, List.set_cons_zero, List.set_cons_succ]
      refine wpAnyZ_step (i := 20) rfl (by kernel_rfl) (fun K hK => ?_)
      go_simp
      refine hK.out _ _ (fun h => absurd rfl h) ?_
      clear hK K
      try simp only [Act.put, List.getElem_toArray, List.getElem_cons_zero, List.getElem_cons_succ, List.setIfInBounds_toArray, List.set_cons_zero, List.set_cons_succ]
      refine wpAnyZ_done (by kernel_rfl) ?_
      refine NoPanic.normal ?_
      have dd := below_then D14.out D14.out.size c19
      have oI := own_below oin dd
      have oP := own_below (own_below op (below_then b6 b6.size (below_then hb7 hb7.size (below_then (below_then b8 b8.size b9) (below_then b8 b8.size b9).size e11)))) (below_then (below_then bS bS.size bT) (below_then bS bS.size bT).size c19)
      have hap := own_apart0 oin op (b4.size)
      have hpw : [Value.slice Vp mp cp, .slice (some ⟨g, 0, none⟩) bs.length (bs.length + 1)].Pairwise fun u v => ∀ k, u.ownBlock = some k → v.ownBlock ≠ some k := by
        simp only [List.pairwise_cons, List.mem_singleton, forall_eq, List.not_mem_nil, false_implies, implies_true, List.Pairwise.nil, and_true]
        exact fun k h1 h2 => hap k h2 h1
      have HOW := Lib.hid (owned_lit [Value.slice Vp mp cp, .slice (some ⟨g, 0, none⟩) bs.length (bs.length + 1)] #[Value.slice Vp mp cp, .slice (some ⟨g, 0, none⟩) bs.length (bs.length + 1)] 2 w19 rfl rfl (by omega)
        (fun v hv => by simp only [List.mem_cons, List.not_mem_nil, or_false] at hv; rcases hv with rfl | rfl <;> first | exact Room.own oP | exact Room.own oI) hpw)
      have hge : ∀ k, OwnB [Value.slice Vp mp cp, .slice (some ⟨g, 0, none⟩) bs.length (bs.length + 1)] k → wb.heap.size ≤ k := by
        rintro k ⟨v, hv, hk⟩
        simp only [List.mem_cons, List.not_mem_nil, or_false] at hv
        rcases hv with rfl | rfl
        · have h1 := (op.lt k hk).1
          have h2 := b44.size
          omega
        · have h1 := (oin.lt k hk).1
          have h2 := b13.size
          omega
      have bA := below_alloc w19 (.cells #[Value.slice Vp mp cp, .slice (some ⟨g, 0, none⟩) bs.length (bs.length + 1)] 37)
      have HBB := Lib.hid (below_then b19' b19'.size bA)
      have HCQ := Lib.hid fun (w1 : World) (h : ErrT w1) => (show Calls Tryd.prog 10 #[errQ 1] w1 fun e w' => e = .returned (.int .i64 1) ∧ Below w1.heap.size w1 w' from code_any 1 w1 h)
      have HCR := Lib.hid fun (w1 : World) (h : ErrT w1) => code_any (readE bs) w1 h
      have hke : ((readE bs : Int) == (readE bs : Int)) = true := by simp
      rw [HE0.out]
      clear hap hpw oI oP bA dd
      go_wp2_with (first
        | (go_at_call 27; refine HOW.out.mono ?_; rintro e w22 ⟨rfl, o22, -⟩; (have B22 := o22.below HBB.out hge); (have E22 : ErrT w22 := HEB.out.below B22))
        | (go_at_call 10; have h24 := E24; refine (HCR.out _ E24).mono ?_; rintro e w25 ⟨rfl, b25⟩; (have B25 := below_then B24 B24.size b25); clear E24 HCR)
        | (go_at_call 10; have h23 := E23; refine (HCQ.out _ E23).mono ?_; rintro e w24 ⟨rfl, b24⟩; (have B24 := below_then B23 B23.size b24); (have E24 := E23.below b24); clear E23)
        | (go_at_call 10; refine (HCQ.out _ E22).mono ?_; rintro e w23 ⟨rfl, b23⟩; (have B23 := below_then B22 B22.size b23); (have E23 := E22.below b23); clear E22))
      go_ret
      exact ⟨rfl, below_then b b.size B25⟩

theorem quorumTells_row (A : Option Addr) (c : Nat) (ns : List Int) (A2 : Option Addr) (c2 : Nat) (bs : List UInt8) (A3 : Option Addr) (c3 : Nat) (ks : List Int) (A4 : Option Addr) (c4 : Nat) (ms : List (Int × Int)) (who : Int) (w : World)
    (hl : ns.length ≤ c) (hn : c ≤ 17592186044416) (hr : RI w A ns) (hA : A = none → c = 0) (hl2 : bs.length ≤ c2) (hn2 : c2 ≤ 140737488351232) (hr2 : RB w A2 bs) (hl3 : ks.length ≤ c3) (hn3 : c3 ≤ 17592186044416) (hr3 : RI w A3 ks)
    (hl4 : ms.length ≤ c4) (hn4 : c4 ≤ 8796093022208) (hr4 : RM w A4 ms) (w4 : (Lit.int .i64 who).wf = true) (hE : ErrT w) :
    Calls Tryd.prog 4 #[.agg #[.slice A ns.length c], .slice A2 bs.length c2, .slice A3 ks.length c3, .slice A4 ms.length c4, .int .i64 who] w fun e w' => e = .returned (.bool true) ∧ Below w.heap.size w w' :=
  tells_walk A _ c ns A2 _ c2 bs A3 _ c3 ks A4 _ c4 ms who w hE hr rfl (by omega) hA hr2 rfl (by omega) hl2 hr3 rfl (by omega) hr4 rfl (by omega)
end Go.Proofs.YtaopipghooaekaaDoor
