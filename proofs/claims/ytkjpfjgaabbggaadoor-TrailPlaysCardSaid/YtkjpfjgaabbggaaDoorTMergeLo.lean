/- trail.Merge from below the base: the contract. Printed by this project's own mergelo.py. -/
import Derived.Test.YtkjpfjgaabbggaaDoorTMerge
import Derived.Deep.RegionHeld3
import Derived.Test.YtkjpfjgaabbggaaDoorHeldZ
import Derived.Deep.RegionLawGrows
import Derived.Test.YtkjpfjgaabbggaaDoorGrow
import Derived.Outline
import Derived.Deep.QuietTactic
import Derived.BigQuiet
set_option linter.unusedVariables false
set_option linter.unusedSimpArgs false
namespace Go.Proofs.YtkjpfjgaabbggaaDoor
open Go.RowKit

set_option maxRecDepth 100000 in
set_option maxHeartbeats 8000000 in
theorem merge_loW (base p : Nat) (i t : Int) (v : Value) (es : List Ent) (Ds : List Value) (A : Option Addr) (len ca : Nat) (l : List Ent) (Dl : List Value) (prev term : Int) (w : World) (h : TO w base p i t v es Ds)
    (hrl : RE w A l Dl) (hl : l.length = len) (hlc : len ≤ ca) (hA : A = none → len = 0) (h0 : 0 ≤ i) (h1 : i ≤ 10000000000000) (h2 : es.length ≤ 10000000000000) (hmem : len * 48 ≤ 140737488355328) (hbase : base ≤ w.heap.size) (hok : okNew prev term l = true) (hp1 : prev < i) (hp3 : i ≤ prev + len) :
    Calls Tryd.prog 12 #[.pointer (some ⟨p, 0, none⟩), .int .i64 prev, .int .i64 term, .slice A len ca] w (MergePostW w base p i t v Ds (mergeT i t es prev term l)) := by
  have hok2 := hok
  simp only [okNew, Bool.and_eq_true, decide_eq_true_eq] at hok2
  obtain ⟨⟨hi1, hi2, hx⟩, hf⟩ := hok2
  have hm : decide (min prev term < 0) = false := decide_eq_false (by omega)
  have hx1 : decide (1099511627776 < prev) = false := decide_eq_false (by omega)
  have b := below_alloc w (.cells #[.pointer (some ⟨p, 0, none⟩)] 24)
  have hq : (w.alloc (.cells #[.pointer (some ⟨p, 0, none⟩)] 24)).cell? ⟨w.heap.size, 0, none⟩ = some (.pointer (some ⟨p, 0, none⟩)) := by
    simp only [World.cell?, heap_alloc_new, Option.isSome_none, Bool.false_eq_true, ↓reduceIte]; rfl
  have HF := Lib.hid (follows_any A len ca l Dl prev term _ (hrl.below b) hl hi1 (by omega) (by omega))
  rw [hf] at HF
  obtain ⟨L, c, hv, hre, hLc, -, hLn⟩ := h.2.2.re
  subst hv
  have HE := Lib.hid (fun w1 (b1 : Below w.heap.size w w1) m => end_any p i t L es.length c (w1.drewN m) ((h.below b1).tr.drewN (m := m)) h0 h1 h2)
  have HT := Lib.hid h
  have HTm := Lib.hid (fun w1 (b1 : Below w.heap.size w w1) x => term_any p i t L c es Ds x w1 (h.below b1).tr (hre.below b1) h0 h1 h2)
  have hl0 : (0 : Int) ≤ (len : Int) := by omega
  have hl1 : (len : Int) ≤ 10000000000000 := by omega
  obtain ⟨R, hR⟩ : ∃ R, R = mergeT i t es prev term l := ⟨_, rfl⟩
  have HR := Lib.hid hR
  have HOK := Lib.hid hok
  have HFf := Lib.hid hf
  rw [← hR]
  clear hf hok hR
  have HL := Lib.hid hl
  have HRL := Lib.hid hrl
  have HRE := Lib.hid hre
  have HAn := Lib.hid hA
  clear hl h hre hrl hA
  have hp2 : prev ≤ i + es.length := by omega
  obtain ⟨s, hs⟩ : ∃ s : Nat, i - prev = (s : Int) + 1 := ⟨(i - prev - 1).toNat, by omega⟩
  have hsl : s < len := by omega
  have hsll : s < l.length := by have := HL.out; omega
  obtain ⟨g0, o0, rfl, hg0, -⟩ := HRL.out.addr (by omega)
  obtain ⟨-, hcs, -⟩ := HRL.out.at s hsll
  obtain ⟨TT, hTT⟩ : ∃ TT, TT = l[s].t := ⟨_, rfl⟩
  rw [← hTT] at hcs
  have hs1 : (i - prev).toNat = s + 1 := by omega
  have hTm : TT = termN term l (i - prev).toNat := by rw [hs1, hTT]; simp [termN, hsll]
  obtain ⟨lq, hlq⟩ : ∃ lq, lq = l.drop (s + 1) := ⟨_, rfl⟩
  obtain ⟨Dq, hDq⟩ : ∃ Dq, Dq = Dl.drop (s + 1) := ⟨_, rfl⟩
  obtain ⟨lenq, hlenq⟩ : ∃ x, len - (s + 1) = x := ⟨_, rfl⟩
  obtain ⟨caq, hcaq⟩ : ∃ x, ca - (s + 1) = x := ⟨_, rfl⟩
  obtain ⟨Aq, hAq⟩ : ∃ Aq : Option Addr, (if ca = s + 1 then some ⟨g0, o0, none⟩ else some ⟨g0, o0 + (s + 1) * 4, none⟩) = Aq := ⟨_, rfl⟩
  have hlm : lq = l.drop (i - prev).toNat := by rw [hs1, hlq]
  have HL2 := Lib.hid (show lq.length = lenq by rw [hlq, List.length_drop, HL.out, hlenq])
  have hlcq : lenq ≤ caq := by omega
  have hlenq2 : lenq ≤ len := by omega
  have HRL2 := Lib.hid (show RE w Aq lq Dq by
    by_cases hcc : ca = s + 1
    · have : lq = [] := List.eq_nil_of_length_eq_zero (by rw [HL2.out]; omega)
      have h2 : Dq = [] := List.eq_nil_of_length_eq_zero (by rw [hDq, List.length_drop, HRL.out.1, HL.out]; omega)
      rw [this, h2]
      exact RE.nil _ _
    · rw [if_neg hcc] at hAq
      rw [← hAq, hlq, hDq]
      exact HRL.out.drop (s + 1))
  have HFf2 := Lib.hid (show follows i TT lq = true by
    have h := follows_drop (s + 1) (by omega) HFf.out
    rw [← hs1, ← hTm, hs1, ← hlq] at h
    rw [show prev + ((s + 1 : Nat) : Int) = i by omega] at h
    exact h)
  have hPm : i = max prev i := by omega
  have HM1 := Lib.hid (fun hd => mergeT_differs (es := es) (t := t) HOK.out hp2 (by have := HL.out; omega) hPm hTm hlm hd)
  have HM2 := Lib.hid (fun hd hk => mergeT_none (es := es) (t := t) HOK.out hp2 (by have := HL.out; omega) hPm hTm hlm hd hk)
  have HM3 := Lib.hid (fun hd k hk hkl => mergeT_some (es := es) (t := t) HOK.out hp2 (by have := HL.out; omega) hPm hTm hlm hd (k := k) hk hkl)
  have HIX := Lib.hid (fun w1 (b1 : Below w.heap.size w w1) (hq : w1.cell? ⟨w.heap.size, 0, none⟩ = some (.pointer (some ⟨p, 0, none⟩))) => idx_any p w.heap.size i t L c es Ds Aq lenq caq lq Dq w1 hq (HT.out.below b1).tr (HRE.out.below b1) (HRL2.out.below b1) HL2.out (by omega) h0 h1 h2)
  have hs0 : (0 : Int) ≤ (s : Int) := by omega
  have hs2 : (s : Int) < (len : Int) := by omega
  have hs3 : (s : Int) + 1 ≤ (len : Int) := by omega
  have hs4 : (s : Int) + 1 ≤ (ca : Int) := by omega
  have hs5 : ((s : Int) + 1).toNat = s + 1 := by omega
  have hs6 : (0 : Int) ≤ (s : Int) + 1 := by omega
  have dl : decide (prev + (len : Int) < i) = false := decide_eq_false (by omega)
  clear hPm hTm hlm hlq hDq hTT hs1 hsll
  by_cases hTt : ¬ termT i t es i = TT
  · have hb : (termT i t es i != TT) = true := by simpa using hTt
    have HMM := Lib.hid (HR.out.trans (HM1.out hTt))
    clear hTt
    go_enter Tryd.func12, Tryd.ntmps12
    go_wp2_with (go_at_call 31; refine HF.out.mono ?_; rintro e w1 ⟨rfl, b1⟩; have hq1 := below_cell b1 hq; have hc1 := below_cell (below_then b b.size b1) HT.out.tr.1)
    all_goals
      refine (HE.out w1 (below_then b b.size b1) 0).mono ?_
      rintro e w2 ⟨rfl, m, rfl⟩
      have hcs1 := below_cell (below_then b b.size b1) hcs
      go_wp2_with fail
      have hqm : ∀ m, (w1.drewN m).cell? ⟨w.heap.size, 0, none⟩ = some (.pointer (some ⟨p, 0, none⟩)) := fun m => hq1
      have hpm : ∀ m, (w1.drewN m).cell? ⟨p, 0, none⟩ = some (.int .i64 i) := fun m => hc1
      go_quiet (fail)
      clear hqm hpm
      go_wp2_with fail
      refine (HTm.out _ (below_draws (below_then b b.size b1) _) _).mono ?_
      rintro e w3 ⟨rfl, m2, rfl⟩
      go_wp2_with fail
      go_ret3
      have b2 := below_draws (below_then b b.size b1) (m + nq + m2)
      rw [HMM.out]
      exact ⟨_, _, Ds, [], rfl, below_grown b2 _, HT.out.below b2, OE.nil _ _, fun k h => .inl h, fun k h => absurd h ownT_nil⟩
  · have hTt' : termT i t es i = TT := Decidable.not_not.1 hTt
    have hb : (termT i t es i != TT) = false := by simpa using hTt'
    have HM2' := Lib.hid (HM2.out hTt')
    have HM3' := Lib.hid (HM3.out hTt')
    clear hTt hTt'
    by_cases hk : lq.findIdx (isNew i t es) < lq.length
    · obtain ⟨k, hke⟩ : ∃ k, lq.findIdx (isNew i t es) = k := ⟨_, rfl⟩
      have hix : idxNew i t es lq = (k : Nat) := by unfold idxNew; rw [if_pos hk, hke]
      rw [hix] at HIX
      rw [hke] at hk
      have HMM := Lib.hid (HR.out.trans (HM3'.out k hke hk))
      have hX := follows_get HFf2.out k hk
      have hkm : i + k ≤ i + es.length := by
        cases k with
        | zero => omega
        | succ k' =>
          have hnk : isNew i t es (lq[k']'(by omega)) = false := List.not_of_lt_findIdx (p := isNew i t es) (xs := lq) (i := k') (by rw [hke]; omega)
          have hin : inT i es (lq[k']'(by omega)).i = true := by
            cases hc : inT i es (lq[k']'(by omega)).i with
            | true => rfl
            | false => rw [isNew, hc] at hnk; simp at hnk
          have := of_decide_eq_true hin
          rw [follows_get HFf2.out k' (by omega)] at this
          omega
      obtain ⟨n', hm'⟩ : ∃ m : Nat, (m : Int) = i + k - i := ⟨(i + k - i).toNat, by omega⟩
      have hn1 : n' ≤ es.length := by omega
      have hkl : k < lenq := by have := HL2.out; omega
      have hcc : ¬ ca = s + 1 := by omega
      rw [if_neg hcc] at hAq
      subst hAq
      obtain ⟨hce, -⟩ := HRL2.out.at k hk
      have s1 : IntKind.i64.wrap (lq[k].i - i) = (n' : Int) + 1 := (IntWalk.i64_in (lq[k].i - i) (by omega)).trans (by omega)
      have s2 : IntKind.i64.wrap ((n' : Int) + 1 - 1) = (n' : Int) := (IntWalk.i64_in ((n' : Int) + 1 - 1) (by omega)).trans (by omega)
      have s3 : IntKind.i64.wrap (n' : Int) = (n' : Int) := IntWalk.i64_in (n' : Int) (by omega)
      obtain ⟨X, hXe⟩ : ∃ X, X = lq[k].i := ⟨_, rfl⟩
      rw [← hXe] at hce s1
      have HC0 := (fun w1 (b1 : Below w.heap.size w w1) => copied_any (some ⟨g0, o0 + (s + 1) * 4 + k * 4, none⟩) (lenq - k) (caq - k) (lq.drop k) (Dq.drop k) w1 ((HRL2.out.below b1).drop k) (by rw [List.length_drop, HL2.out]) (fun h => by cases h) (by omega))
      have HC02 := (fun w1 (b1 : w.grownBy w1 (some p)) => copied_any (some ⟨g0, o0 + (s + 1) * 4 + k * 4, none⟩) (lenq - k) (caq - k) (lq.drop k) (Dq.drop k) w1 ((HRL2.out.grown HT.out b1).drop k) (by rw [List.length_drop, HL2.out]) (fun h => by cases h) (by omega))
      have hl2e : (lq.drop k).length = lenq - k := by rw [List.length_drop, HL2.out]
      rw [HL.out] at HMM
      obtain ⟨l2, hl2⟩ : ∃ l2, l2 = lq.drop k := ⟨_, rfl⟩
      rw [← hl2] at HC0 HC02 hl2e HMM
      have HC := Lib.hid HC0
      have HC2 := Lib.hid HC02
      have hl2p : 0 < l2.length := by omega
      have hl2le : l2.length ≤ lenq := by omega
      have hsum : n' + l2.length ≤ 4100000000000 := by omega
      have hfit : Builtin.nextslicecap (n' + l2.length) n' * 48 ≤ 281474976710656 := by have := nextslicecap_q (need := n' + l2.length) (old := n') (by omega); omega
      have HFIT := Lib.hid hfit
      clear hfit
      have HNN := Lib.hid hm'
      clear HC0 HC02 hl2
      obtain ⟨i0, hi, hz0, hz1, hz2⟩ := info_parts info_entry
      have HI := Lib.hid hi
      have hfp : w.frozen? ⟨p, 2, none⟩ = false := by simp [World.frozen?, HT.out.2.1]
      have hpl := HT.out.lt
      clear hi
      have HLO := Lib.hid (show (ecells (es.take n') (Ds.take n')).length = n' * 4 by rw [ecells_length (by simp [HRE.out.1]), List.length_take, Nat.min_eq_left hn1])
      have HO := Lib.hid (fun (w' : World) (b : Below w.heap.size w w') (bb : Addr) (hb : L = some bb) (j : Nat) (u : Value) (hj : (ecells (es.take n') (Ds.take n'))[j]? = some u) => show w'.cell? (bb.add j) = some u by obtain ⟨a, ha, hc⟩ := ((HRE.out.below b).take n').2.1 j u hj; rw [hb] at ha; cases ha; exact hc)
      have hck : ¬ caq = k := by omega
      have hk0 : (0 : Int) ≤ (k : Int) := by omega
      have hk1 : (k : Int) < (lenq : Int) := by omega
      have hk2 : (k : Int) ≤ (lenq : Int) := by omega
      have hn0 : (0 : Int) ≤ (n' : Int) := by omega
      have hn2 : (n' : Int) ≤ (c : Int) := by omega
      clear hix hke hX hkm hm' hXe hl2e
      go_enter Tryd.func12, Tryd.ntmps12
      go_wp2_with (go_at_call 31; refine HF.out.mono ?_; rintro e w1 ⟨rfl, b1⟩; have hq1 := below_cell b1 hq; have hc1 := below_cell (below_then b b.size b1) HT.out.tr.1)
      all_goals
        refine (HE.out w1 (below_then b b.size b1) 0).mono ?_
        rintro e w2 ⟨rfl, m, rfl⟩
        have hcs1 := below_cell (below_then b b.size b1) hcs
        go_wp2_with fail
        have hqm : ∀ m, (w1.drewN m).cell? ⟨w.heap.size, 0, none⟩ = some (.pointer (some ⟨p, 0, none⟩)) := fun m => hq1
        have hpm : ∀ m, (w1.drewN m).cell? ⟨p, 0, none⟩ = some (.int .i64 i) := fun m => hc1
        go_quiet (fail)
        clear hqm hpm
        go_wp2_with fail
        refine (HTm.out _ (below_draws (below_then b b.size b1) _) _).mono ?_
        rintro e w3 ⟨rfl, m2, rfl⟩
        have b2 := below_draws (below_then b b.size b1) (m + nq + m2)
        go_wp2_with fail
        refine (HIX.out _ b2 hq1).mono ?_
        rintro e w4 ⟨rfl, b3⟩
        have b4 := below_then b2 b2.size b3
        have hq4 := below_cell b3 (w := w1.drewN (m + nq + m2)) hq1
        have hTR4 := (HT.out.below b4).tr
        have hc4 := below_cell b4 hce
        have hp40 := hTR4.1
        have hp42 := hTR4.2.2
        clear hq1 hc1 b3 b2
        go_wp2_with fail
        refine wp_region_Z (fun w' => w'.cell? ⟨w.heap.size, 0, none⟩ = some (.pointer (some ⟨p, 0, none⟩)) ∧ w'.cell? ⟨p, 0, none⟩ = some (.int .i64 i) ∧ w'.cell? ⟨p, 2, none⟩ = some (.slice L es.length c) ∧ w'.cell? ⟨g0, o0 + (s + 1) * 4 + k * 4, none⟩ = some (.int .i64 X)) 39 (by kernel_rfl) ⟨hq4, hp40, hp42, hc4⟩ (fun hHeld => ?_)
        refine wpAnyZ_take (i := 0) (v := ?_) rfl (by kernel_rfl) (by kernel_rfl) (by kernel_rfl) (by kernel_rfl) (by decide) (fun _ _ _ h => h) (by rfl) ?_ (by assumption) ?_
        rotate_left
        · (intro w hSw; (try dsimp only at hSw); go_simp) <;> with_reducible rfl
        try simp only [Act.put, List.setIfInBounds_toArray, List.set_cons_zero, List.set_cons_succ]
        refine wpAnyZ_take (i := 1) (v := ?_) rfl (by kernel_rfl) (by kernel_rfl) (by kernel_rfl) (by kernel_rfl) (by decide) (fun _ _ _ h => h) (by rfl) ?_ (by assumption) ?_
        rotate_left
        · (intro w hSw; (try dsimp only at hSw); go_simp) <;> with_reducible rfl
        try simp only [Act.put, List.setIfInBounds_toArray, List.set_cons_zero, List.set_cons_succ]
        refine wpAnyZ_take (i := 2) (v := ?_) rfl (by kernel_rfl) (by kernel_rfl) (by kernel_rfl) (by kernel_rfl) (by decide) (fun _ _ _ h => h) (by rfl) ?_ (by assumption) ?_
        rotate_left
        · (intro w hSw; (try dsimp only at hSw); go_simp) <;> with_reducible rfl
        try simp only [Act.put, List.setIfInBounds_toArray, List.set_cons_zero, List.set_cons_succ]
        refine wpAnyZ_take (i := 3) (v := ?_) rfl (by kernel_rfl) (by kernel_rfl) (by kernel_rfl) (by kernel_rfl) (by decide) (fun _ _ _ h => h) (by rfl) ?_ (by assumption) ?_
        rotate_left
        · (intro w hSw; (try dsimp only at hSw); go_simp) <;> with_reducible rfl
        try simp only [Act.put, List.setIfInBounds_toArray, List.set_cons_zero, List.set_cons_succ]
        refine wpAnyZ_take (i := 4) (v := ?_) rfl (by kernel_rfl) (by kernel_rfl) (by kernel_rfl) (by kernel_rfl) (by decide) (fun _ _ _ h => h) (by rfl) ?_ (by assumption) ?_
        rotate_left
        · (intro w hSw; (try dsimp only at hSw); go_simp) <;> with_reducible rfl
        try simp only [Act.put, List.setIfInBounds_toArray, List.set_cons_zero, List.set_cons_succ]
        refine wpAnyZ_take (i := 5) (v := ?_) rfl (by kernel_rfl) (by kernel_rfl) (by kernel_rfl) (by kernel_rfl) (by decide) (fun _ _ _ h => h) (by rfl) ?_ (by assumption) ?_
        rotate_left
        · (intro w hSw; (try dsimp only at hSw); go_simp) <;> with_reducible rfl
        try simp only [Act.put, List.setIfInBounds_toArray, List.set_cons_zero, List.set_cons_succ]
        refine wpAnyZ_take (i := 6) (v := ?_) rfl (by kernel_rfl) (by kernel_rfl) (by kernel_rfl) (by kernel_rfl) (by decide) (fun _ _ _ h => h) (by rfl) ?_ (by assumption) ?_
        rotate_left
        · (intro w hSw; (try dsimp only at hSw); go_simp) <;> with_reducible rfl
        try simp only [Act.put, List.setIfInBounds_toArray, List.set_cons_zero, List.set_cons_succ]
        refine wpAnyZ_take (i := 7) (v := ?_) rfl (by kernel_rfl) (by kernel_rfl) (by kernel_rfl) (by kernel_rfl) (by decide) (fun _ _ _ h => h) (by rfl) ?_ (by assumption) ?_
        rotate_left
        · (intro w hSw; (try dsimp only at hSw); go_simp) <;> with_reducible rfl
        try simp only [Act.put, List.setIfInBounds_toArray, List.set_cons_zero, List.set_cons_succ]
        refine wpAnyZ_take (i := 8) (v := ?_) rfl (by kernel_rfl) (by kernel_rfl) (by kernel_rfl) (by kernel_rfl) (by decide) (fun _ _ _ h => h) (by rfl) ?_ (by assumption) ?_
        rotate_left
        · (intro w hSw; (try dsimp only at hSw); go_simp) <;> with_reducible rfl
        try simp only [Act.put, List.setIfInBounds_toArray, List.set_cons_zero, List.set_cons_succ]
        refine wpAnyZ_take (i := 9) (v := ?_) rfl (by kernel_rfl) (by kernel_rfl) (by kernel_rfl) (by kernel_rfl) (by decide) (fun _ _ _ h => h) (by rfl) ?_ (by assumption) ?_
        rotate_left
        · (intro w hSw; (try dsimp only at hSw); go_simp) <;> with_reducible rfl
        try simp only [Act.put, List.setIfInBounds_toArray, List.set_cons_zero, List.set_cons_succ]
        refine wpAnyZ_take (i := 10) (v := ?_) rfl (by kernel_rfl) (by kernel_rfl) (by kernel_rfl) (by kernel_rfl) (by decide) (fun _ _ _ h => h) (by rfl) ?_ (by assumption) ?_
        rotate_left
        · (intro w hSw; (try dsimp only at hSw); go_simp) <;> with_reducible rfl
        try simp only [Act.put, List.setIfInBounds_toArray, List.set_cons_zero, List.set_cons_succ]
        refine wpAnyZ_take (i := 11) (v := ?_) rfl (by kernel_rfl) (by kernel_rfl) (by kernel_rfl) (by kernel_rfl) (by decide) (fun _ _ _ h => h) (by rfl) ?_ (by assumption) ?_
        rotate_left
        · (intro w hSw; (try dsimp only at hSw); go_simp) <;> with_reducible rfl
        try simp only [Act.put, List.setIfInBounds_toArray, List.set_cons_zero, List.set_cons_succ]
        refine wpAnyZ_take (i := 12) (v := ?_) rfl (by kernel_rfl) (by kernel_rfl) (by kernel_rfl) (by kernel_rfl) (by decide) (fun _ _ _ h => h) (by rfl) ?_ (by assumption) ?_
        rotate_left
        · (intro w hSw; (try dsimp only at hSw); go_simp) <;> with_reducible rfl
        try simp only [Act.put, List.setIfInBounds_toArray, List.set_cons_zero, List.set_cons_succ]
        refine wpAnyZ_take (i := 13) (v := ?_) rfl (by kernel_rfl) (by kernel_rfl) (by kernel_rfl) (by kernel_rfl) (by decide) (fun _ _ _ h => h) (by rfl) ?_ (by assumption) ?_
        rotate_left
        · (intro w hSw; (try dsimp only at hSw); go_simp) <;> with_reducible rfl
        try simp only [Act.put, List.setIfInBounds_toArray, List.set_cons_zero, List.set_cons_succ]
        refine wpAnyZ_take (i := 14) (v := ?_) rfl (by kernel_rfl) (by kernel_rfl) (by kernel_rfl) (by kernel_rfl) (by decide) (fun _ _ _ h => h) (by rfl) ?_ (by assumption) ?_
        rotate_left
        · (intro w hSw; (try dsimp only at hSw); go_simp) <;> with_reducible rfl
        try simp only [Act.put, List.setIfInBounds_toArray, List.set_cons_zero, List.set_cons_succ]
        refine wpAnyZ_take (i := 15) (v := ?_) rfl (by kernel_rfl) (by kernel_rfl) (by kernel_rfl) (by kernel_rfl) (by decide) (fun _ _ _ h => h) (by rfl) ?_ (by assumption) ?_
        rotate_left
        · (intro w hSw; (try dsimp only at hSw); go_simp) <;> with_reducible rfl
        try simp only [Act.put, List.setIfInBounds_toArray, List.set_cons_zero, List.set_cons_succ]
        refine wpAnyZ_take (i := 16) (v := ?_) rfl (by kernel_rfl) (by kernel_rfl) (by kernel_rfl) (by kernel_rfl) (by decide) (fun _ _ _ h => h) (by rfl) ?_ (by assumption) ?_
        rotate_left
        · (intro w hSw; (try dsimp only at hSw); go_simp) <;> with_reducible rfl
        try simp only [Act.put, List.setIfInBounds_toArray, List.set_cons_zero, List.set_cons_succ]
        refine wpAnyZ_take (i := 17) (v := ?_) rfl (by kernel_rfl) (by kernel_rfl) (by kernel_rfl) (by kernel_rfl) (by decide) (fun _ _ _ h => h) (by rfl) ?_ (by assumption) ?_
        rotate_left
        · (intro w hSw; (try dsimp only at hSw); go_simp) <;> with_reducible rfl
        try simp only [Act.put, List.setIfInBounds_toArray, List.set_cons_zero, List.set_cons_succ]
        refine wpAnyZ_take (i := 18) (v := ?_) rfl (by kernel_rfl) (by kernel_rfl) (by kernel_rfl) (by kernel_rfl) (by decide) (fun _ _ _ h => h) (by rfl) ?_ (by assumption) ?_
        rotate_left
        · (intro w hSw; (try dsimp only at hSw); go_simp) <;> with_reducible rfl
        try simp only [Act.put, List.setIfInBounds_toArray, List.set_cons_zero, List.set_cons_succ]
        refine wpAnyZ_take (i := 19) (v := ?_) rfl (by kernel_rfl) (by kernel_rfl) (by kernel_rfl) (by kernel_rfl) (by decide) (fun _ _ _ h => h) (by rfl) ?_ (by assumption) ?_
        rotate_left
        · (intro w hSw; (try dsimp only at hSw); go_simp) <;> with_reducible rfl
        try simp only [Act.put, List.setIfInBounds_toArray, List.set_cons_zero, List.set_cons_succ]
        refine wpAnyZ_take (i := 20) (v := ?_) rfl (by kernel_rfl) (by kernel_rfl) (by kernel_rfl) (by kernel_rfl) (by decide) (fun _ _ _ h => h) (by rfl) ?_ (by assumption) ?_
        rotate_left
        · (intro w hSw; (try dsimp only at hSw); go_simp) <;> with_reducible rfl
        try simp only [Act.put, List.setIfInBounds_toArray, List.set_cons_zero, List.set_cons_succ]
        refine wpAnyZ_take (i := 21) (v := ?_) rfl (by kernel_rfl) (by kernel_rfl) (by kernel_rfl) (by kernel_rfl) (by decide) (fun _ _ _ h => h) (by rfl) ?_ (by assumption) ?_
        rotate_left
        · (intro w hSw; (try dsimp only at hSw); go_simp) <;> with_reducible rfl
        try simp only [Act.put, List.setIfInBounds_toArray, List.set_cons_zero, List.set_cons_succ]
        refine wpAnyZ_take (i := 22) (v := ?_) rfl (by kernel_rfl) (by kernel_rfl) (by kernel_rfl) (by kernel_rfl) (by decide) (fun _ _ _ h => h) (by rfl) ?_ (by assumption) ?_
        rotate_left
        · (intro w hSw; (try dsimp only at hSw); go_simp) <;> with_reducible rfl
        try simp only [Act.put, List.setIfInBounds_toArray, List.set_cons_zero, List.set_cons_succ]
        refine wpAnyZ_take (i := 23) (v := ?_) rfl (by kernel_rfl) (by kernel_rfl) (by kernel_rfl) (by kernel_rfl) (by decide) (fun _ _ _ h => h) (by rfl) ?_ (by assumption) ?_
        rotate_left
        · (intro w hSw; (try dsimp only at hSw); go_simp) <;> with_reducible rfl
        try simp only [Act.put, List.setIfInBounds_toArray, List.set_cons_zero, List.set_cons_succ]
        refine wpAnyZ_take (i := 24) (v := ?_) rfl (by kernel_rfl) (by kernel_rfl) (by kernel_rfl) (by kernel_rfl) (by decide) (fun _ _ _ h => h) (by rfl) ?_ (by assumption) ?_
        rotate_left
        · (intro w hSw; (try dsimp only at hSw); go_simp) <;> with_reducible rfl
        try simp only [Act.put, List.setIfInBounds_toArray, List.set_cons_zero, List.set_cons_succ]
        refine wpAnyZ_take (i := 25) (v := ?_) rfl (by kernel_rfl) (by kernel_rfl) (by kernel_rfl) (by kernel_rfl) (by decide) (fun _ _ _ h => h) (by rfl) ?_ (by assumption) ?_
        rotate_left
        · (intro w hSw; (try dsimp only at hSw); go_simp) <;> with_reducible rfl
        try simp only [Act.put, List.setIfInBounds_toArray, List.set_cons_zero, List.set_cons_succ]
        refine wpAnyZ_take (i := 26) (v := ?_) rfl (by kernel_rfl) (by kernel_rfl) (by kernel_rfl) (by kernel_rfl) (by decide) (fun _ _ _ h => h) (by rfl) ?_ (by assumption) ?_
        rotate_left
        · (intro w hSw; (try dsimp only at hSw); go_simp) <;> with_reducible rfl
        try simp only [Act.put, List.setIfInBounds_toArray, List.set_cons_zero, List.set_cons_succ]
        refine wpAnyZ_take (i := 27) (v := ?_) rfl (by kernel_rfl) (by kernel_rfl) (by kernel_rfl) (by kernel_rfl) (by decide) (fun _ _ _ h => h) (by rfl) ?_ (by assumption) ?_
        rotate_left
        · (intro w hSw; (try dsimp only at hSw); go_simp) <;> with_reducible rfl
        try simp only [Act.put, List.setIfInBounds_toArray, List.set_cons_zero, List.set_cons_succ]
        refine wpAnyZ_take (i := 28) (v := ?_) rfl (by kernel_rfl) (by kernel_rfl) (by kernel_rfl) (by kernel_rfl) (by decide) (fun _ _ _ h => h) (by rfl) ?_ (by assumption) ?_
        rotate_left
        · (intro w hSw; (try dsimp only at hSw); go_simp) <;> with_reducible rfl
        try simp only [Act.put, List.setIfInBounds_toArray, List.set_cons_zero, List.set_cons_succ]
        refine wpAnyZ_take (i := 29) (v := ?_) rfl (by kernel_rfl) (by kernel_rfl) (by kernel_rfl) (by kernel_rfl) (by decide) (fun _ _ _ h => h) (by rfl) ?_ (by assumption) ?_
        rotate_left
        · (intro w hSw; (try dsimp only at hSw); go_simp) <;> with_reducible rfl
        try simp only [Act.put, List.setIfInBounds_toArray, List.set_cons_zero, List.set_cons_succ]
        refine wpAnyZ_take (i := 30) (v := ?_) rfl (by kernel_rfl) (by kernel_rfl) (by kernel_rfl) (by kernel_rfl) (by decide) (fun _ _ _ h => h) (by rfl) ?_ (by assumption) ?_
        rotate_left
        · (intro w hSw; (try dsimp only at hSw); go_simp) <;> with_reducible rfl
        try simp only [Act.put, List.setIfInBounds_toArray, List.set_cons_zero, List.set_cons_succ]
        refine wpAnyZ_take (i := 31) (v := ?_) rfl (by kernel_rfl) (by kernel_rfl) (by kernel_rfl) (by kernel_rfl) (by decide) (fun _ _ _ h => h) (by rfl) ?_ (by assumption) ?_
        rotate_left
        · (intro w hSw; (try dsimp only at hSw); go_simp) <;> with_reducible rfl
        try simp only [Act.put, List.setIfInBounds_toArray, List.set_cons_zero, List.set_cons_succ]
        refine wpAnyZ_take (i := 32) (v := ?_) rfl (by kernel_rfl) (by kernel_rfl) (by kernel_rfl) (by kernel_rfl) (by decide) (fun _ _ _ h => h) (by rfl) ?_ (by assumption) ?_
        rotate_left
        · (intro w hSw; (try dsimp only at hSw); go_simp) <;> with_reducible rfl
        try simp only [Act.put, List.setIfInBounds_toArray, List.set_cons_zero, List.set_cons_succ]
        refine wpAnyZ_take (i := 33) (v := ?_) rfl (by kernel_rfl) (by kernel_rfl) (by kernel_rfl) (by kernel_rfl) (by decide) (fun _ _ _ h => h) (by rfl) ?_ (by assumption) ?_
        rotate_left
        · (intro w hSw; (try dsimp only at hSw); go_simp) <;> with_reducible rfl
        try simp only [Act.put, List.setIfInBounds_toArray, List.set_cons_zero, List.set_cons_succ]
        refine wpAnyZ_step (i := 34) rfl (by kernel_rfl) (fun K hK => ?_)
        go_simp
        refine (HC.out _ (by first | exact b4 | exact b4.drew | exact below_draws b4 _)).mono ?_
        rintro e w5 ⟨vM, Dm, rfl, om, b5d⟩
        have b5 := below_of_drew1 b5d
        obtain ⟨gm, cm, rfl, rm, hcm, hgm1, hgm2⟩ := om.head hl2p
        have hq5 := below_cell b5 hq4
        have hp50 := below_cell b5 hp40
        have hp52 := below_cell b5 hp42
        have hc5 := below_cell b5 hc4
        refine hK.out _ _ (fun _ => ⟨hq5, hp50, hp52, hc5⟩) ?_
        clear hK K
        try simp only [Act.put, List.setIfInBounds_toArray, List.set_cons_zero, List.set_cons_succ]
        refine wpAnyZ_step (i := 35) rfl (by kernel_rfl) (fun K hK => ?_)
        refine step_append_fit (by rfl) _ _ _ (by rfl) 44 i0 _ 4 48 Tryd.underlying22 HI.out hz0 hz1 hz2 rfl (by decide) L n' n' (ecells (es.take n') (Ds.take n')) (by rfl) (fun h => by have := hLn h; omega) HLO.out (HO.out w5 (below_then b4 b4.size b5)) ⟨gm, 0, none⟩ l2.length cm (ecells l2 Dm) (by rfl) (ecells_length rm.1) rm.news (ecells_one rm.1 rm.ones) (by omega) (by omega) HFIT.out (fun _ => by omega) ?_
        intro v' w6 own6 hg6
        obtain ⟨g6, cap6, rfl, -, hg6a, hg6b⟩ := own_head own6 (by omega)
        have hS6 := (⟨hg6.cell hq5 (by simp), hg6.cell hp50 (by simp), hg6.cell hp52 (by simp), hg6.cell hc5 (by simp)⟩ : w6.cell? ⟨w.heap.size, 0, none⟩ = some (.pointer (some ⟨p, 0, none⟩)) ∧ w6.cell? ⟨p, 0, none⟩ = some (.int .i64 i) ∧ w6.cell? ⟨p, 2, none⟩ = some (.slice L es.length c) ∧ w6.cell? ⟨g0, o0 + (s + 1) * 4 + k * 4, none⟩ = some (.int .i64 X))
        have hp62 := hS6.2.2.1
        have hf6 := merge_frz HT.out (below_then b4 b4.size b5) hg6
        refine hK.out _ _ (fun _ => hS6) ?_
        clear hK K
        try simp only [Act.put, List.setIfInBounds_toArray, List.set_cons_zero, List.set_cons_succ]
        refine wpAnyZ_take (i := 36) (v := ?_) rfl (by kernel_rfl) (by kernel_rfl) (by kernel_rfl) (by kernel_rfl) (by decide) (fun _ _ _ h => h) (by rfl) ?_ (by assumption) ?_
        rotate_left
        · (intro w hSw; (try dsimp only at hSw); go_simp) <;> with_reducible rfl
        try simp only [Act.put, List.setIfInBounds_toArray, List.set_cons_zero, List.set_cons_succ]
        refine wpAnyZ_take (i := 37) (v := ?_) rfl (by kernel_rfl) (by kernel_rfl) (by kernel_rfl) (by kernel_rfl) (by decide) (fun _ _ _ h => h) (by rfl) ?_ (by assumption) ?_
        rotate_left
        · (intro w hSw; (try dsimp only at hSw); go_simp) <;> with_reducible rfl
        try simp only [Act.put, List.setIfInBounds_toArray, List.set_cons_zero, List.set_cons_succ]
        refine wpAnyZ_take (i := 38) (v := ?_) rfl (by kernel_rfl) (by kernel_rfl) (by kernel_rfl) (by kernel_rfl) (by decide) (fun _ _ _ h => h) (by rfl) ?_ (by assumption) ?_
        rotate_left
        · (intro w hSw; (try dsimp only at hSw); go_simp) <;> with_reducible rfl
        try simp only [Act.put, List.setIfInBounds_toArray, List.set_cons_zero, List.set_cons_succ]
        refine wpAnyZ_step (i := 39) rfl (by kernel_rfl) (fun K hK => ?_)
        go_simp
        refine hK.out _ _ (fun h => absurd rfl h) ?_
        clear hK K
        try simp only [Act.put, List.setIfInBounds_toArray, List.set_cons_zero, List.set_cons_succ]
        refine wpAnyZ_done (by kernel_rfl) ?_
        refine NoPanic.normal ?_
        go_wp2_with fail
        refine (HC2.out _ (merge_put (below_then b4 b4.size b5) hg6)).mono ?_
        rintro e w7 ⟨M, Dm2, rfl, om2, b7⟩
        go_wp2_with fail
        go_ret3
        exact merge_fin HT.out hbase b4 om b5 own6 hg6 hn1 b7 om2 (by rw [HMM.out, show (i + (k : Int) - i).toNat = n' by have := HNN.out; omega])
    · have hix : idxNew i t es lq = -1 := by unfold idxNew; rw [if_neg hk]
      rw [hix] at HIX
      have HMM := Lib.hid (HR.out.trans (HM2'.out hk))
      clear hk hix
      go_enter Tryd.func12, Tryd.ntmps12
      go_wp2_with (go_at_call 31; refine HF.out.mono ?_; rintro e w1 ⟨rfl, b1⟩; have hq1 := below_cell b1 hq; have hc1 := below_cell (below_then b b.size b1) HT.out.tr.1)
      all_goals
        refine (HE.out w1 (below_then b b.size b1) 0).mono ?_
        rintro e w2 ⟨rfl, m, rfl⟩
        have hcs1 := below_cell (below_then b b.size b1) hcs
        go_wp2_with fail
        have hqm : ∀ m, (w1.drewN m).cell? ⟨w.heap.size, 0, none⟩ = some (.pointer (some ⟨p, 0, none⟩)) := fun m => hq1
        have hpm : ∀ m, (w1.drewN m).cell? ⟨p, 0, none⟩ = some (.int .i64 i) := fun m => hc1
        go_quiet (fail)
        clear hqm hpm
        go_wp2_with fail
        refine (HTm.out _ (below_draws (below_then b b.size b1) _) _).mono ?_
        rintro e w3 ⟨rfl, m2, rfl⟩
        have b2 := below_draws (below_then b b.size b1) (m + nq + m2)
        go_wp2_with fail
        refine (HIX.out _ b2 hq1).mono ?_
        rintro e w4 ⟨rfl, b3⟩
        go_wp2_with fail
        go_ret3
        have b4 := below_then b2 b2.size b3
        rw [HMM.out]
        exact ⟨_, _, Ds, [], by rw [HL.out]; rfl, below_grown b4 _, HT.out.below b4, OE.nil _ _, fun k h => .inl h, fun k h => absurd h ownT_nil⟩
end Go.Proofs.YtkjpfjgaabbggaaDoor
