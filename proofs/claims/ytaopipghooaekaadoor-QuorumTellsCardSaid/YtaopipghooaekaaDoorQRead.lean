/- quorum.Read: the contract. -/
import Derived.Test.YtaopipghooaekaaDoorQRefRead
import Derived.Test.YtaopipghooaekaaDoorHeldZ
import Derived.Deep.AppendLies
set_option linter.unusedVariables false
set_option linter.unusedSimpArgs false
namespace Go.Proofs.YtaopipghooaekaaDoor
open Go.RowKit

theorem RC.start3 (w : World) (v : Value) : RC w (((w.alloc (.cells #[v] 37)).alloc (.cells #[.slice none 0 0] 24)).alloc (.cells #[.slice none 0 0] 24)) (w.heap.size + 1) (w.heap.size + 2) (w.heap.size + 3) none 0 0 [] := by
  have h := RC.start (w.alloc (.cells #[v] 37))
  have b := below_alloc w (.cells #[v] 37)
  have e : (w.alloc (.cells #[v] 37)).heap.size = w.heap.size + 1 := by simp
  rw [e] at h
  exact ⟨h.res, h.var, h.own, by have h1 := h.bel; rw [e] at h1; exact b.trans (h1.mono (by omega)), h.size, h.o2, h.o7, h.ne, by omega, by omega⟩

theorem RC.drew {w0 w : World} {p2 p7 base : Nat} {V : Option Addr} {k cv : Nat} {ns : List Int} (h : RC w0 w p2 p7 base V k cv ns) : RC w0 w.drew p2 p7 base V k cv ns :=
  ⟨h.res, h.var, own_stepr h.own fun _ _ => rfl, h.bel.drew, h.size, h.o2, h.o7, h.ne, h.z2, h.z7⟩
theorem RC.push_other {w0 w w4 : World} {p2 p7 base : Nat} {V : Option Addr} {k cv j : Nat} {ns : List Int} {o : Obj} {v : Value} (h : RC w0 w p2 p7 base V k cv ns)
    (hg : (w.alloc o).grownBy w4 (Value.slice V k cv).ownBlock) (hj : j < base) (hn : j ≠ p7) : (w4.setCell ⟨p7, 0, none⟩ v).heap[j]? = w.heap[j]? := by
  have hsz := h.size
  rw [heap_setCell_other _ _ _ _ hn, hg.block j (by simp; omega) (fun e => by have := (h.own.lt j e.symm).1; omega)]
  exact (below_alloc w o).block j (by omega)
theorem capM (x : Int) : ∃ M : Nat, (M : Int) = if x ≤ 0 then 0 else if x < 6 then x else 6 := by
  by_cases h : x ≤ 0
  · exact ⟨0, by rw [if_pos h]; rfl⟩
  · by_cases h6 : x < 6
    · exact ⟨x.toNat, by rw [if_neg h, if_pos h6]; omega⟩
    · exact ⟨6, by rw [if_neg h, if_neg h6]; rfl⟩

set_option maxRecDepth 100000 in
set_option maxHeartbeats 2000000 in
theorem read_any (A : Option Addr) (n c : Nat) (bs : List UInt8) (w : World) (hr : RB w A bs) (hl : bs.length = n) (hc : n ≤ c) (hn : n ≤ 140737488351232) :
    Calls Tryd.prog 16 #[.slice A n c] w fun e w' => ∃ V m cv, e = .returned (.tuple #[.agg #[.slice V m cv], errV (readE bs)]) ∧ (readV bs).length = m ∧ RI w' V (readV bs) ∧ Below w.heap.size w w' := by
  obtain ⟨i0, hi, hz0, hz1, hz2⟩ := info_parts info_int
  have HI := Lib.hid hi
  clear hi
  obtain ⟨wb, hwb⟩ : ∃ wb, wb = ((w.alloc (.cells #[.slice A n c] 37)).alloc (.cells #[.slice none 0 0] 24)).alloc (.cells #[.slice none 0 0] 24) := ⟨_, rfl⟩
  have rc := RC.start3 w (.slice A n c)
  rw [← hwb] at rc
  have hbox : wb.heap[w.heap.size]? = some (.cells #[.slice A n c] 37 (0, 0)) := by
    rw [hwb, (below_alloc _ _).block _ (by simp; omega), (below_alloc _ _).block _ (by simp)]; exact heap_alloc_new w _
  have HN := Lib.hid (rnum1_any w.heap.size A n c bs w wb hbox hr hl hc hn rc.bel)
  have HC := Lib.hid rc
  have HW := Lib.hid hwb
  clear hbox hwb rc
  go_enter Tryd.func16, Tryd.ntmps16
  go_wp2_with (go_at_call 40; rw [← HW.out]; refine HN.out.mono ?_; rintro e w1 ⟨rfl, A1, n1, c1, hb1, hr1, hl1, hc1, hn1, hg1⟩)
  have rc1 := HC.out.kept hg1 (Nat.le_refl _) (by omega) (by omega) (by omega)
  obtain ⟨x, hx⟩ : ∃ x, x = numI bs := ⟨_, rfl⟩
  obtain ⟨r, hrr⟩ : ∃ r, r = numR bs := ⟨_, rfl⟩
  rw [← hrr] at hr1 hl1
  rw [← hx]
  have HX := Lib.hid hx
  have HR := Lib.hid hrr
  have HRB := Lib.hid hr1
  have HL1 := Lib.hid hl1
  clear hx hrr hr1 hl1 hg1
  obtain ⟨M, hM⟩ : ∃ M : Nat, (M : Int) = if x ≤ 0 then 0 else if x < 6 then x else 6 := capM x
  have HM := Lib.hid hM
  clear hM
  go_loopg [] M (fun q wr => ∃ (k : Nat) (B : Option Addr) (m cb : Nat) (V : Option Addr) (cv : Nat), q = M - k ∧ k ≤ M ∧ wr.heap[w.heap.size]? = some (.cells #[.slice B m cb] 37 (0, 0)) ∧ Hid ((numsR k r).length = m) ∧ m ≤ cb ∧ m ≤ n ∧ Hid (RB w B (numsR k r)) ∧ RC w wr (w.heap.size + 1) (w.heap.size + 2) (w.heap.size + 3) V k cv (numsI k r))
  case atStart => exact ⟨0, A1, n1, c1, none, 0, by omega, by omega, hb1, HL1, by omega, by omega, HRB, rc1⟩
  case round =>
    clear rc1 hb1
    obtain ⟨k, B, m, cb, V, cv, hq, hk, hbx, HML, hmc, hmn, HB, rc⟩ := hrel
    have q2 := rc.cell2
    have f2 := rc.fz2
    have q7 := rc.cell7
    have f7 := rc.fz7
    by_cases hkM : k < M
    · have hx0 : 0 < x := by
        have := HM.out
        by_cases h : x ≤ 0
        · rw [if_pos h] at this; omega
        · omega
      have hkx : (k : Int) < if x < 6 then x else 6 := by
        have := HM.out
        rw [if_neg (by omega)] at this
        rw [← this]; omega
      go_wp2_with fail
      have HN2 := Lib.hid (rnum1_any w.heap.size B m cb (numsR k r) w wr.drew hbx HB.out HML.out hmc (by omega) rc.bel.drew)
      have HC2 := Lib.hid rc
      have q70 : wr.drew.cell? ⟨w.heap.size + 1 + 1, 0, none⟩ = some (.slice V k cv) := q7
      clear q2 f2 f7 rc q7
      refine wp_region_Z (fun w' => w'.cell? ⟨w.heap.size + 1 + 1, 0, none⟩ = some (.slice V k cv)) 7 (by kernel_rfl) q70 (fun hHeld => ?_)
      refine wpAnyZ_take (i := 0) (v := ?_) rfl (by kernel_rfl) (by kernel_rfl) (by kernel_rfl) (by kernel_rfl) (by decide) (fun _ _ _ h => h) (by rfl) ?_ (by assumption) ?_
      rotate_left
      · (intro w hSw; (try dsimp only at hSw); go_simp) <;> with_reducible rfl
      try simp only [Act.put, List.getElem_toArray, List.getElem_cons_zero, List.getElem_cons_succ, List.setIfInBounds_toArray, List.set_cons_zero, List.set_cons_succ]
      refine wpAnyZ_take (i := 1) (v := ?_) rfl (by kernel_rfl) (by kernel_rfl) (by kernel_rfl) (by kernel_rfl) (by decide) (fun _ _ _ h => h) (by rfl) ?_ (by assumption) ?_
      rotate_left
      · (intro w hSw; (try dsimp only at hSw); go_simp) <;> with_reducible rfl
      try simp only [Act.put, List.getElem_toArray, List.getElem_cons_zero, List.getElem_cons_succ, List.setIfInBounds_toArray, List.set_cons_zero, List.set_cons_succ]
      refine wpAnyZ_take (i := 2) (v := ?_) rfl (by kernel_rfl) (by kernel_rfl) (by kernel_rfl) (by kernel_rfl) (by decide) (fun _ _ _ h => h) (by rfl) ?_ (by assumption) ?_
      rotate_left
      · (intro w hSw; (try dsimp only at hSw); go_simp) <;> with_reducible rfl
      try simp only [Act.put, List.getElem_toArray, List.getElem_cons_zero, List.getElem_cons_succ, List.setIfInBounds_toArray, List.set_cons_zero, List.set_cons_succ]
      refine wpAnyZ_step (i := 3) rfl (by kernel_rfl) (fun K hK => ?_)
      go_simp
      refine HN2.out.mono ?_
      rintro e w3 ⟨rfl, A3, n3, c3, hb3, hr3, hl3, hc3, hn3, hg3⟩
      have rc3 := HC2.out.drew.kept hg3 (Nat.le_refl _) (by omega) (by omega) (by omega)
      have q73 : w3.cell? ⟨w.heap.size + 1 + 1, 0, none⟩ = some (.slice V k cv) := rc3.cell7
      refine hK.out _ _ (fun _ => q73) ?_
      clear hK K
      try simp only [Act.put, List.getElem_toArray, List.getElem_cons_zero, List.getElem_cons_succ, List.setIfInBounds_toArray, List.set_cons_zero, List.set_cons_succ]
      refine wpAnyZ_step (i := 4) rfl (by kernel_rfl) (fun K hK => ?_)
      go_simp
      have b4 := below_alloc w3 (.cells #[.int .i64 (numI (numsR k r))] 3)
      have q74 := below_cell b4 q73
      refine hK.out _ _ (fun _ => q74) ?_
      clear hK K
      try simp only [Act.put, List.getElem_toArray, List.getElem_cons_zero, List.getElem_cons_succ, List.setIfInBounds_toArray, List.set_cons_zero, List.set_cons_succ]
      refine wpAnyZ_step (i := 5) rfl (by kernel_rfl) (fun K hK => ?_)
      refine step_append_lies _ (by rfl) _ _ _ (by rfl) (w.heap.size + 3) 3 i0 _ 1 8 Tryd.underlying22 HI.out hz0 hz1 hz2 rfl (by omega) (.slice V k cv) k (iv (numsI k r)) (by rfl) (own_below rc3.own b4) ⟨w3.heap.size, 0, none⟩ 1 1 [.int .i64 (numI (numsR k r))] (by rfl) (by rfl) (one_new w3 _ _) (by simp [Value.oneCell']) (by omega) (by unfold maxLen; omega) (by omega) (Nat.le_trans rc3.size b4.size) (w3.heap.size + 1) (by simp) ?_
      intro gg cap w5 own5 hg5 hat hlt
      have h5 := rc3.var4 hg5
      have q75 : w5.cell? ⟨w.heap.size + 1 + 1, 0, none⟩ = some (.slice V k cv) := cell_of' h5
      have f75 : w5.frozen? ⟨w.heap.size + 1 + 1, 0, none⟩ = false := frozen_of' h5
      refine hK.out _ _ (fun _ => q75) ?_
      clear hK K
      try simp only [Act.put, List.getElem_toArray, List.getElem_cons_zero, List.getElem_cons_succ, List.setIfInBounds_toArray, List.set_cons_zero, List.set_cons_succ]
      refine wpAnyZ_take (i := 6) (v := ?_) rfl (by kernel_rfl) (by kernel_rfl) (by kernel_rfl) (by kernel_rfl) (by decide) (fun _ _ _ h => h) (by rfl) ?_ (by assumption) ?_
      rotate_left
      · (intro w hSw; (try dsimp only at hSw); go_simp) <;> with_reducible rfl
      try simp only [Act.put, List.getElem_toArray, List.getElem_cons_zero, List.getElem_cons_succ, List.setIfInBounds_toArray, List.set_cons_zero, List.set_cons_succ]
      refine wpAnyZ_step (i := 7) rfl (by kernel_rfl) (fun K hK => ?_)
      go_simp
      refine hK.out _ _ (fun h => absurd rfl h) ?_
      clear hK K
      try simp only [Act.put, List.getElem_toArray, List.getElem_cons_zero, List.getElem_cons_succ, List.setIfInBounds_toArray, List.set_cons_zero, List.set_cons_succ]
      refine wpAnyZ_done (by kernel_rfl) ?_
      refine NoPanic.normal ?_
      go_wp2_with fail
      go_roundg (M - (k + 1))
      case measure => omega
      case rel =>
        have hoth := rc3.push_other hg5 (v := .slice (some ⟨gg, 0, none⟩) (k + 1) cap) (j := w.heap.size) (by omega) (by omega)
        refine ⟨k + 1, A3, n3, c3, some ⟨gg, 0, none⟩, cap, rfl, by omega, hoth.trans hb3, Lib.hid (by rw [numsR_succ]; exact hl3), hc3, by omega, Lib.hid (by rw [numsR_succ]; exact hr3), ?_⟩
        rw [numsI_succ]
        exact rc3.push hg5 (by rw [iv_append]; exact own5)
    · obtain rfl : k = M := by omega
      have hkM2 := HM.out
      by_cases hin : (k : Int) = x
      · have hXk : Hid (numI bs = k) := Lib.hid (by rw [← HX.out, hin])
        have hk6 : k ≤ 6 := by
          rw [← hin] at hkM2
          by_cases h : (k : Int) ≤ 0
          · omega
          · rw [if_neg h] at hkM2
            by_cases h6 : (k : Int) < 6
            · omega
            · rw [if_neg h6] at hkM2; omega
        obtain rfl : x = (k : Int) := hin.symm
        have hB : readB bs = (decide (m = 0) && rightB (numsI k r)) := by
          by_cases hk0 : k = 0
          · subst hk0
            rw [read_none (by rw [hXk.out]; omega), show rightB (numsI 0 r) = false from rfl, Bool.and_false]
          · by_cases h6 : k = 6
            · subst h6
              rw [read_many (by rw [hXk.out]; omega), show rightB (numsI 6 r) = false by
                cases h : rightB (numsI 6 r) with
                | false => rfl
                | true => have := right_len h; rw [numsI_len] at this; omega, Bool.and_false]
            · rw [read_at hXk.out (by omega) (by omega), ← HR.out, HML.out]
        have hcond : ¬ (k : Int) < if (k : Int) < 6 then (k : Int) else 6 := by
          by_cases h6 : (k : Int) < 6
          · rw [if_pos h6]; omega
          · rw [if_neg h6]; omega
        clear hkM2 hin
        by_cases hm0 : m = 0
        · obtain rfl : m = 0 := hm0
          have HQ := Lib.hid (right_any V k cv (numsI k r) wr (RI.own rc.own) (numsI_len _ _) (by omega))
          have HC2 := Lib.hid rc
          have hcb : wr.cell? ⟨w.heap.size, 0, none⟩ = some (.slice B 0 cb) := by simp [World.cell?, hbx]
          by_cases hq2 : rightB (numsI k r) = true
          · have hrb : readB bs = true := by rw [hB, hq2]; rfl
            have HE := Lib.hid (readE_ok hrb)
            have HVV := Lib.hid (show readV bs = numsI k r by rw [readV_ok hXk.out hrb, HR.out])
            rw [rightE_ok hq2, errQ_zero] at HQ
            clear q2 f2 f7 hrb rc hq2 hB
            by_cases hk0 : (0 : Int) < (k : Int)
            all_goals
              go_wp2_with (go_at_call 14; refine HQ.out.mono ?_; rintro e w3 ⟨rfl, b3⟩; (have rc3 := HC2.out.below b3); (have q2 := rc3.cell2); (have f2 := rc3.fz2); have q7 := rc3.cell7; have f7 := rc3.fz7)
              have q := World.cell?_setCell_same _ _ (.slice V k cv) rc3.cell2
              exact bodyPost_ret (v := .tuple #[.agg #[.slice V k cv], errV 0]) (by simp [results, Tryd.results16, go_sem, q, errV]) rfl ⟨V, k, cv, by rw [HE.out], by rw [HVV.out]; exact numsI_len _ _, by rw [HVV.out]; exact (RI.own rc3.own).step fun a ha h0 => heap_setCell_other _ _ _ _ (by have := (rc3.own.lt a.block (by rw [ha]; rfl)).1; show a.block ≠ w.heap.size + 1; omega), rc3.bel.setCell (by exact rc3.z2) _⟩
          · have hrb : readB bs = false := by rw [hB]; simp at hq2; rw [hq2]; rfl
            have HE := Lib.hid (readE_no hrb)
            have HVV := Lib.hid (readV_no hrb)
            have hq3 : rightB (numsI k r) = false := by simpa using hq2
            rw [rightE_no hq3, errQ_one] at HQ
            clear q2 f2 f7 hrb rc hq2 hq3 hB
            by_cases hk0 : (0 : Int) < (k : Int)
            all_goals
              go_wp2_with (go_at_call 14; refine HQ.out.mono ?_; rintro e w3 ⟨rfl, b3⟩; (have rc3 := HC2.out.below b3); (have q2 := rc3.cell2); (have f2 := rc3.fz2); have q7 := rc3.cell7; have f7 := rc3.fz7)
              have q := World.cell?_setCell_same _ _ (.slice none 0 0) rc3.cell2
              exact bodyPost_ret (v := .tuple #[.agg #[.slice none 0 0], errV 4]) (by simp [results, Tryd.results16, go_sem, q, errV]) rfl ⟨none, 0, 0, by rw [HE.out], by rw [HVV.out]; rfl, by rw [HVV.out]; exact RI.nil _ _, rc3.bel.setCell (by exact rc3.z2) _⟩
        · have hrb : readB bs = false := by rw [hB]; simp [hm0]
          have HE := Lib.hid (readE_no hrb)
          have HVV := Lib.hid (readV_no hrb)
          have hm1 : ¬ (m : Int) = 0 := by omega
          have hcb : wr.cell? ⟨w.heap.size, 0, none⟩ = some (.slice B m cb) := by simp [World.cell?, hbx]
          have HC2 := Lib.hid rc
          clear hrb hB rc
          by_cases hk0 : (0 : Int) < (k : Int)
          all_goals
            go_wp2_with fail
            have q := World.cell?_setCell_same _ _ (.slice none 0 0) HC2.out.cell2
            exact bodyPost_ret (v := .tuple #[.agg #[.slice none 0 0], errV 4]) (by simp [results, Tryd.results16, go_sem, q, errV]) rfl ⟨none, 0, ⟨0, by rw [HE.out]⟩, by rw [HVV.out]; rfl, by rw [HVV.out]; exact RI.nil _ _, HC2.out.bel.setCell (by exact HC2.out.z2) _⟩
      · have hrb : readB bs = false := by
          by_cases h : x ≤ 0
          · exact read_none (by rw [← HX.out]; exact h)
          · rw [if_neg h] at hkM2
            by_cases h6 : x < 6
            · rw [if_pos h6] at hkM2; exact absurd hkM2 hin
            · exact read_many (by rw [← HX.out]; omega)
        have HE := Lib.hid (readE_no hrb)
        have HVV := Lib.hid (readV_no hrb)
        have HC2 := Lib.hid rc
        by_cases hx0 : 0 < x
        · have hcond : ¬ (k : Int) < if x < 6 then x else 6 := by
            rw [if_neg (by omega)] at hkM2
            rw [← hkM2]; omega
          clear hrb hkM2 rc
          go_wp2_with fail
          have q := World.cell?_setCell_same _ _ (.slice none 0 0) HC2.out.cell2
          exact bodyPost_ret (v := .tuple #[.agg #[.slice none 0 0], errV 4]) (by simp [results, Tryd.results16, go_sem, q, errV]) rfl ⟨none, 0, ⟨0, by rw [HE.out]⟩, by rw [HVV.out]; rfl, by rw [HVV.out]; exact RI.nil _ _, HC2.out.bel.setCell (by exact HC2.out.z2) _⟩
        · clear hrb hkM2 rc
          go_wp2_with fail
          have q := World.cell?_setCell_same _ _ (.slice none 0 0) HC2.out.cell2
          exact bodyPost_ret (v := .tuple #[.agg #[.slice none 0 0], errV 4]) (by simp [results, Tryd.results16, go_sem, q, errV]) rfl ⟨none, 0, ⟨0, by rw [HE.out]⟩, by rw [HVV.out]; rfl, by rw [HVV.out]; exact RI.nil _ _, HC2.out.bel.setCell (by exact HC2.out.z2) _⟩
end Go.Proofs.YtaopipghooaekaaDoor
