/- muntinlaw01.WireTorn is true, whatever the rows and the cut: the law's own walk. -/
import Derived.Test.YtocjfiahkdpicaaTornPlain
import Derived.Test.YtocjfiahkdpicaaRowsRead
import Derived.Test.YtocjfiahkdpicaaScan
import Derived.Laws.OwnMore
set_option linter.unusedVariables false
set_option linter.unusedSimpArgs false
namespace Go.Proofs.Ytocjfiahkdpicaa
open Go.RowKit

theorem info_int : (Try.prog.info? 3).map (fun i => (i.zero, i.size, i.bytes)) = some (some (.int .i64 0), 1, 8) := by kernel_rfl
theorem own_at {w : World} {base n c : Nat} {e : TypeId} {A : Option Addr} {xs : List Value} (h : w.ownsRow base e 1 (.slice A n c) n xs) (h0 : 0 < n) :
    ∃ g, A = some ⟨g, 0, none⟩ ∧ base ≤ g ∧ g < w.heap.size ∧ ∀ j, j < n → w.cell? ⟨g, j, none⟩ = xs[j]? := by
  rcases h.2 with ⟨h1, _⟩ | ⟨g, cap, cur, h1, r⟩
  · injection h1 with _ h2 _
    omega
  · injection h1 with h2 _ h3
    subst h2; subst h3
    obtain ⟨l1, l2⟩ := h.lt g rfl
    exact ⟨g, rfl, l1, l2, fun j hj => h.cellAt j (by omega)⟩
/-- where each frame ends -/
def cuts (rows : List (List UInt8)) : List Nat := (List.range rows.length).map fun j => (frames (rows.take (j + 1))).length
@[simp] theorem cuts_length (rows : List (List UInt8)) : (cuts rows).length = rows.length := by simp [cuts]
theorem cuts_snoc (rows : List (List UInt8)) (r : List UInt8) : cuts (rows ++ [r]) = cuts rows ++ [(frames (rows ++ [r])).length] := by
  unfold cuts
  rw [List.length_append, List.length_singleton, List.range_succ, List.map_append]
  congr 1
  · apply List.map_congr_left
    intro j hj
    rw [List.take_append_of_le_length (by have := List.mem_range.1 hj; omega)]
  · simp [List.take_of_length_le]
def iv (ns : List Nat) : List Value := ns.map fun n => .int .i64 (n : Nat)
@[simp] theorem iv_length (ns : List Nat) : (iv ns).length = ns.length := by simp [iv]
theorem iv_snoc (ns : List Nat) (n : Nat) : iv (ns ++ [n]) = iv ns ++ [.int .i64 n] := by simp [iv]
theorem take_next {α : Type} (l : List α) (k : Nat) (h : k < l.length) : l.take (k + 1) = l.take k ++ [l[k]] := by rw [List.take_succ_eq_append_getElem h]

theorem kept_types {w w' : World} {b b' : Nat} {e e' : TypeId} {s s' n n' : Nat} {v v' : Value} {xs xs' : List Value} (h : w.ownsRow b e s v n xs) (h' : w.ownsRow b' e' s' v' n' xs') (hg : w.grownBy w' v'.ownBlock) (hne : e ≠ e') : w'.ownsRow b e s v n xs := by
  refine h.kept hg ?_
  cases hk : v.ownBlock with
  | none => exact .inl rfl
  | some k => exact .inr fun e => own_types h h' hne k hk e.symm
/-- what the first loop has made: the bytes, and the ends -/
def Made1 (w : World) (rows : List (List UInt8)) (k : Nat) (vb ve : Value) (wr : World) : Prop :=
  wr.ownsRow w.heap.size 5 1 vb (frames (rows.take k)).length (bv (frames (rows.take k))) ∧ wr.ownsRow w.heap.size 3 1 ve k (iv (cuts (rows.take k))) ∧ Below w.heap.size w wr ∧
    (∀ r ∈ rows.take k, r.length ≤ 1048576) ∧ (frames (rows.take k)).length ≤ k * 1048584

set_option maxRecDepth 100000 in
set_option maxHeartbeats 2000000 in
theorem wireTorn_walk (A : Option Addr) (c : Nat) (rows : List (List UInt8)) (cut : Int) (w : World) (hl : rows.length ≤ c) (hc : c ≤ 140737488351232) (hr : RR w A rows) (wc : (Lit.int .i64 cut).wf = true) :
    Calls Try.prog 6 #[.slice A rows.length c, .int .i64 cut] w fun e w' => e = .returned (.bool true) ∧ Below w.heap.size w w' := by
  obtain ⟨K, hK⟩ : ∃ K, K = min rows.length 30 := ⟨_, rfl⟩
  have hK1 : K ≤ rows.length := by omega
  have hK2 : K ≤ 30 := by omega
  have hK3 : K < rows.length → K = 30 := by omega
  clear hK
  go_enter Try.func6, Try.ntmps6
  go_wp2_with fail
  go_loopg [5, 6, 7] K (fun m vb ve i wr => ∃ (k : Nat), m = K - k ∧ k ≤ K ∧ i = .int .i64 k ∧ Made1 w rows k vb ve wr)
  case atStart => exact ⟨0, by omega, by omega, rfl, World.ownsRow_nil _ _ _ _, World.ownsRow_nil _ _ _ _, Below.refl _ _, by simp, by simp [frames_nil]⟩
  case round =>
    obtain ⟨k, hm, hk, rfl, ownb, owne, bel, hall, hsz⟩ := hrel
    by_cases hkK : k < K
    · have hk1 : (k : Int) < (rows.length : Int) := by omega
      have hk2 : (k : Int) < 30 := by omega
      have hkl : k < rows.length := by omega
      obtain ⟨g, o, rfl, hg, hcell⟩ := hr.addr (by omega)
      obtain ⟨B, cb, hcl, hrb, hbc, hcb, hB⟩ := hcell k hkl
      have hcl' := below_cell bel hcl
      have hrb' := hrb.below bel
      obtain ⟨R, hR⟩ : ∃ R, R = rows[k] := ⟨_, rfl⟩
      rw [← hR] at hcl' hrb' hbc
      have htk := take_next rows k hkl
      rw [← hR] at htk
      by_cases hlong : 1048576 < R.length
      · have hdl : decide ((1048576 : Int) < (R.length : Int)) = true := decide_eq_true (by omega)
        have HR := Lib.hid hR
        clear hR htk ownb owne
        go_wp2_with fail
        refine (frame_long B R.length cb wr hlong (by omega)).mono ?_
        rintro e w1 ⟨rfl, rfl⟩
        go_wp2_with fail
        go_ret
        exact ⟨rfl, bel⟩
      · obtain ⟨V, cv, rfl, hcv, hVn⟩ := own_shape ownb
        obtain ⟨E, ce, rfl, hce, hEn⟩ := own_shape owne
        have hlen := frame_length R
        obtain ⟨F, hF⟩ : ∃ F, F = frame R := ⟨_, rfl⟩
        rw [← hF] at hlen
        have HR := Lib.hid hR
        have HF := Lib.hid hF
        obtain ⟨fl, hfl⟩ : ∃ n, n = (frames (rows.take k)).length := ⟨_, rfl⟩
        rw [← hfl] at ownb hsz hcv ⊢
        have HFL := Lib.hid hfl
        have HTK := Lib.hid htk
        clear hR htk hF hfl
        go_wp2_with fail
        refine (frame_any B cb R wr (by omega) hrb').mono ?_
        rw [← HF.out, hlen]
        rintro e w1 ⟨rfl, g1, b1⟩
        have bel1 := below_then bel bel.size b1
        have rF : RB w1 (some ⟨wr.heap.size, 0, none⟩) F := RB.block g1 (by simp [List.take_of_length_le])
        have ownb1 : w1.ownsRow w.heap.size 5 1 (.slice V fl cv) fl (bv (frames (rows.take k))) := ownb.kept (row := none) ⟨b1.os, b1.tape, b1.output, b1.size, fun k hk _ => b1.block k hk⟩ (by cases h : Value.ownBlock (.slice V fl cv) <;> simp)
        have owne1 : w1.ownsRow w.heap.size 3 1 (.slice E k ce) k (iv (cuts (rows.take k))) := owne.kept (row := none) ⟨b1.os, b1.tape, b1.output, b1.size, fun k hk _ => b1.block k hk⟩ (by cases h : Value.ownBlock (.slice E k ce) <;> simp)
        clear ownb owne g1
        have hcl1 := below_cell bel1 hcl
        rw [← HR.out] at hcl1
        obtain ⟨n2, hn2⟩ : ∃ n, n = fl + (R.length + 8) := ⟨_, rfl⟩
        have hEL := HFL.out.symm
        have HN2 := Lib.hid hn2
        go_wp2_with (first
          | (at_builtin; refine wpList_append_bytes rfl (.tmp 56) (.tmp 57) rfl w.heap.size (.slice V fl cv) (frames (rows.take k)) F fl (R.length + 8) (R.length + 8) (some ⟨wr.heap.size, 0, none⟩) rfl rfl ownb1 rF hlen (fun h => by cases h) hEL (by omega) bel1.size ?_
             intro vb2 w2 ownb2 hg2
             obtain ⟨V2, cv2, rfl, hcv2, hVn2⟩ := own_shape ownb2
             have owne2 := kept_types owne1 ownb1 hg2 (by decide)
             have bel2 : Below w.heap.size w w2 := bel1.grown hg2 bel1.size (fun q hq => (ownb1.lt q hq).1)
             rw [← hn2] at ownb2 hcv2 ⊢
             have hn3 : n2 ≤ 40000000 := by omega
             clear hn2)
          | (at_builtin; refine wpList_append_one w2 rfl (.tmp 59) (.tmp 62) 37 rfl w.heap.size 3 (.int .i64 0) 8 Try.underlying37 info_int rfl (.slice E k ce) k (iv (cuts (rows.take k))) rfl owne2 (.int .i64 n2) rfl rfl (by unfold maxLen; omega) (by omega) bel2.size ?_; intro ve3 w3 owne3 hg3))
        clear hg2 bel1 b1 rF ownb1 owne1
        have b3 : Below w2.heap.size w2 (w2.alloc (.cells #[.int .i64 n2] 3)) := below_alloc _ _
        have ownb3 := kept_types (ownb2.alloc (.cells #[.int .i64 n2] 3)) (owne2.alloc (.cells #[.int .i64 n2] 3)) hg3 (by decide)
        have bel3 : Below w.heap.size w w3 := (bel2.trans (b3.mono bel2.size)).grown hg3 (by simp; have := bel2.size; omega) (fun q hq => (owne2.lt q hq).1)
        clear owne2 hg3 b3 ownb2 bel2
        go_wp2_with fail
        go_roundg (K - (k + 1))
        case measure => omega
        case rel =>
          have e1 : frames (rows.take (k + 1)) = frames (rows.take k) ++ F := by rw [HTK.out, frames_snoc, HF.out]
          have e2 : n2 = (frames (rows.take (k + 1))).length := by rw [e1, List.length_append, ← HFL.out, hlen, HN2.out]
          refine ⟨k + 1, rfl, by omega, by go_num, ?_, ?_, bel3, ?_, ?_⟩
          · rw [← e2, e1]; exact ownb3
          · rw [HTK.out, cuts_snoc, iv_snoc, ← HTK.out, ← e2]; exact owne3
          · rw [HTK.out]
            intro r hr
            rcases List.mem_append.1 hr with h | h
            · exact hall r h
            · rw [List.mem_singleton.1 h]; omega
          · rw [← e2, HN2.out]; omega
    · obtain rfl : k = K := by omega
      clear hkK hm hk
      obtain ⟨V, cv, rfl, hcv, hVn⟩ := own_shape ownb
      obtain ⟨E, ce, rfl, hce, hEn⟩ := own_shape owne
      obtain ⟨R0, hR0⟩ : ∃ R, R = rows.take k := ⟨_, rfl⟩
      have hR0l : R0.length = k := by rw [hR0]; simp; omega
      rw [← hR0] at ownb owne hall hsz hcv ⊢
      have HR0 := Lib.hid hR0
      obtain ⟨n0, hn0⟩ : ∃ n, n = (frames R0).length := ⟨_, rfl⟩
      rw [← hn0] at ownb hsz hcv ⊢
      have HN0 := Lib.hid hn0
      clear hR0 hn0
      have rb0 := RB.own ownb
      obtain ⟨C, hC, hcase⟩ : ∃ C : Nat, C ≤ n0 ∧ (cut < 0 ∧ C = n0 ∨ (¬ cut < 0 ∧ (n0 : Int) < cut) ∧ C = n0 ∨ cut = (C : Int)) := by
        by_cases h1 : cut < 0
        · exact ⟨n0, Nat.le_refl _, .inl ⟨h1, rfl⟩⟩
        · by_cases h2 : (n0 : Int) < cut
          · exact ⟨n0, Nat.le_refl _, .inr (.inl ⟨⟨h1, h2⟩, rfl⟩)⟩
          · exact ⟨cut.toNat, by omega, .inr (.inr (by omega))⟩
      have hC2 : ¬ ((n0 : Int) < (C : Int)) := by omega
      clear wc
      have hboth : (¬ (k : Int) < (rows.length : Int)) ∨ ((k : Int) < (rows.length : Int) ∧ ¬ (k : Int) < 30) := by omega
      have HK1 := Lib.hid hK1
      have HK2 := Lib.hid hK2
      clear hK1 hK2 hK3
      rcases hboth with hb | ⟨hb, hb2⟩ <;> rcases hcase with ⟨hc1, hCe⟩ | ⟨⟨hc0, hc1⟩, hCe⟩ | hce
      all_goals
        first | subst hce | subst hCe
        go_wp2_with fail
        go_loopg [10, 11, 12] k (fun m wh en i wr2 => ∃ j, m = k - j ∧ j ≤ k ∧ wh = .int .i64 (tornW (R0.take j) C : Nat) ∧ en = .int .i64 (tornE (R0.take j) C : Nat) ∧ i = .int .i64 j ∧ wr2 = wr)
        case atStart => exact ⟨0, by omega, by omega, rfl, rfl, rfl, rfl⟩
        case round =>
          obtain ⟨j, hm, hj, rfl, rfl, rfl, rfl⟩ := hrel
          by_cases hjk : j < k
          · have hjk1 : (j : Int) < (k : Int) := by omega
            have hj30 : (j : Int) ≤ 30 := by have := HK2.out; omega
            obtain ⟨g, rfl, hg1, hg2, hcell⟩ := own_at owne (by omega)
            have hcl := hcell j hjk
            obtain ⟨X, hX⟩ : ∃ X, X = (frames (R0.take (j + 1))).length := ⟨_, rfl⟩
            have hcl2 : wr.cell? ⟨g, j, none⟩ = some (.int .i64 (X : Nat)) := by
              rw [hcl, hX]
              simp [iv, cuts, hR0l, hjk]
            have hsn := torn_snoc (R0.take j) (R0[j]'(by omega)) C
            rw [← take_next R0 j (by omega), ← hX, List.length_take, Nat.min_eq_left (by omega)] at hsn
            clear hcl hX hcell
            have HS := Lib.hid hsn
            obtain ⟨tw, htw⟩ : ∃ n, n = tornW (R0.take j) C := ⟨_, rfl⟩
            obtain ⟨te, hte⟩ : ∃ n, n = tornE (R0.take j) C := ⟨_, rfl⟩
            rw [← htw, ← hte] at HS ⊢
            clear hsn htw hte
            by_cases hXC : X ≤ C
            · have hXC1 : (X : Int) ≤ (C : Int) := by omega
              have hsn := HS.out
              rw [if_pos hXC, if_pos hXC] at hsn
              obtain ⟨s1, s2⟩ := hsn
              have S1 := Lib.hid s1
              have S2 := Lib.hid s2
              clear s1 s2
              go_wp2_with fail
              go_roundg (k - (j + 1))
              case measure => omega
              case rel =>
                have := HK2.out
                exact ⟨j + 1, rfl, by omega, by rw [S1.out]; go_num, by rw [S2.out], by go_num, rfl⟩
            · have hXC1 : ¬ (X : Int) ≤ (C : Int) := by omega
              have hsn := HS.out
              rw [if_neg hXC, if_neg hXC] at hsn
              obtain ⟨s1, s2⟩ := hsn
              have S1 := Lib.hid s1
              have S2 := Lib.hid s2
              clear s1 s2
              go_wp2_with fail
              go_roundg (k - (j + 1))
              case measure => omega
              case rel =>
                have := HK2.out
                exact ⟨j + 1, rfl, by omega, by rw [S1.out], by rw [S2.out], by go_num, rfl⟩
          · obtain rfl : j = k := by omega
            clear hjk hm hj
            rw [List.take_of_length_le (by omega)]
            have HN := HN0.out
            have hsct := scan_torn R0 hall C (by omega)
            have htE := tornE_le R0 C
            have htW := tornW_le R0 C
            obtain ⟨tw, htw⟩ : ∃ n, n = tornW R0 C := ⟨_, rfl⟩
            obtain ⟨te, hte⟩ : ∃ n, n = tornE R0 C := ⟨_, rfl⟩
            rw [← htw, ← hte] at hsct ⊢
            rw [← hte] at htE
            rw [← htw] at htW
            obtain ⟨hs1, hs2, hs3⟩ := hsct
            have HS1 := Lib.hid hs1
            have HS2 := Lib.hid hs2
            have HS3 := Lib.hid hs3
            have rbC := rb0.take C
            have hCl : ((frames R0).take C).length = C := by simp; omega
            have hCcv : (C : Int) ≤ (cv : Int) := by omega
            have hCcv2 : C ≤ cv := by omega
            clear HN htw hte hs1 hs2 hs3
            go_wp2_with fail
            refine (scan_any V C cv ((frames R0).take C) wr hCl (by omega) (by have := HK2.out; omega) rbC).mono ?_
            rw [HS2.out]
            rintro e wS ⟨v, vs, rfl, ownv, all, bS⟩
            have belS := below_then bel bel.size bS
            have hvl : vs.length = tw := by rw [all.1, HS1.out]; simp; omega
            obtain ⟨L, cl, rfl, hcl, hLn⟩ := own_shape ownv
            rw [hvl] at ownv ⊢
            clear hLn hcl HS2
            have herr : ∃ b, (errV (scan ((frames R0).take C)).2.2 = .nilIface ∧ te = C) ∨ (errV (scan ((frames R0).take C)).2.2 = .iface 47 (.int .i64 b) ∧ te ≠ C) := by
              by_cases h0 : (scan ((frames R0).take C)).2.2 = 0
              · exact ⟨0, .inl ⟨by rw [h0, errV_zero], HS3.out.1 h0⟩⟩
              · exact ⟨_, .inr ⟨errV_pos _ h0, fun h => h0 (HS3.out.2 h)⟩⟩
            obtain ⟨b, herr⟩ := herr
            generalize errV (scan ((frames R0).take C)).2.2 = ev at herr ⊢
            have hrS := hr
            have HV := Lib.hid hvl
            clear hvl ownb owne hce bS rb0 rbC hCl HS3 hcv hCcv hCcv2 hC
            have hte2 : (ev = .nilIface ∧ ((te : Int) == (C : Int)) = true) ∨ (ev = .iface 47 (.int .i64 b) ∧ ((te : Int) == (C : Int)) = false) := by
              rcases herr with ⟨h, hte⟩ | ⟨h, hte⟩
              · exact .inl ⟨h, by simp [hte]⟩
              · exact .inr ⟨h, beq_eq_false_iff_ne.2 (by omega)⟩
            clear herr
            rcases hte2 with ⟨rfl, hte⟩ | ⟨rfl, hte⟩
            all_goals
              go_wp2_with fail
              go_loopg [16] tw (fun m i wr2 => ∃ j, m = tw - j ∧ j ≤ tw ∧ i = .int .i64 j ∧ OwnAll wr2 wr.heap.size vs (scan ((frames R0).take C)).1 ∧ wr2.ownsRow wr.heap.size 22 1 (.slice L tw cl) tw vs ∧ Below w.heap.size w wr2)
              case atStart => exact ⟨0, by omega, by omega, rfl, all, ownv, belS⟩
              case round =>
                clear all ownv belS
                obtain ⟨j, hm, hj, rfl, all, ownv, belS⟩ := hrel
                by_cases hjt : j < tw
                · have hjt1 : (j : Int) < (tw : Int) := by omega
                  obtain ⟨g, rfl, hg1, hg2, hcell⟩ := own_at ownv (by omega)
                  have hcl := hcell j hjt
                  have hjv : j < vs.length := by rw [HV.out]; exact hjt
                  have hjp : j < (scan ((frames R0).take C)).1.length := by rw [← all.1]; exact hjv
                  have hown := all.2.1 j vs[j] _ (List.getElem?_eq_getElem hjv) (List.getElem?_eq_getElem hjp)
                  have hk1 := HK1.out
                  have hRj : (scan ((frames R0).take C)).1[j] = rows[j]'(by omega) := by
                    apply Option.some.inj
                    rw [← List.getElem?_eq_getElem hjp, ← List.getElem?_eq_getElem (show j < rows.length by omega), HS1.out, List.getElem?_take_of_lt hjt, HR0.out, List.getElem?_take_of_lt (by omega)]
                  rw [hRj] at hown
                  obtain ⟨gr, o, rfl, hgr, hcr⟩ := hrS.addr (by omega)
                  obtain ⟨B, cb, hcrj, hrb, hbc, hcb, hB⟩ := hcr j (by omega)
                  obtain ⟨R, hR⟩ : ∃ R, R = rows[j] := ⟨_, rfl⟩
                  rw [← hR] at hcrj hrb hbc hown
                  obtain ⟨S, cs, hvj, hcs, _⟩ := own_shape hown
                  rw [hvj] at hown
                  rw [List.getElem?_eq_getElem hjv, hvj] at hcl
                  have hcr2 := below_cell belS hcrj
                  have e1 := fun m => run_str _ S R cs ((RB.own hown).drewN m) 9 Try.underlying9
                  have e2 := fun m => run_str _ B R cb ((hrb.below belS).drewN m) 9 Try.underlying9
                  have hcl' : ∀ m, (wr.drewN m).cell? ⟨g, j, none⟩ = some (.slice S R.length cs) := fun m => hcl
                  have hcr' : ∀ m, (wr.drewN m).cell? ⟨gr, o + j, none⟩ = some (.slice B R.length cb) := fun m => hcr2
                  have e3 : (R == R) = true := by simp
                  have hjk : (j : Int) < (rows.length : Int) := by omega
                  clear hcell hjv hown hRj hcr hvj hR hcrj hrb
                  go_wp2_with fail
                  go_quiet (fail)
                  go_wp2_with fail
                  go_roundg (tw - (j + 1))
                  case measure => omega
                  case rel => exact ⟨j + 1, rfl, by omega, by go_num, all, ownv, ⟨belS.os, belS.tape, belS.output, belS.size, belS.block⟩⟩
                · obtain rfl : j = tw := by omega
                  go_wp2_with fail
                  refine (frame_any _ _ [97] _ (by decide) (RB.block (heap_alloc_new _ _) rfl)).mono ?_
                  rw [frame_length]
                  rintro e w5 ⟨rfl, _, b5⟩
                  go_wp2_with fail
                  go_ret
                  exact ⟨rfl, below_then (belS.trans ((below_alloc _ _).mono belS.size)) (by simp; have := belS.size; omega) b5⟩
end Go.Proofs.Ytocjfiahkdpicaa
