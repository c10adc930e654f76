/- muntinlaw01.WireScans: some cases of its walk. -/
import Derived.Test.YtocjfiahkdpicaaDoorScansHead
set_option linter.unusedVariables false
set_option linter.unusedSimpArgs false
namespace Go.Proofs.YtocjfiahkdpicaaDoor
open Go.RowKit

set_option maxRecDepth 100000 in
set_option maxHeartbeats 8000000 in
theorem scans_b0 (A : Option Addr) (c : Nat) (rows : List (List UInt8)) (at_ y cut : Int) (B : Option Addr) (d : Nat) (ts : List UInt8) (w : World) (hl : rows.length ≤ c) (hc : c ≤ 140737488351232) (hr : RR w A rows)
    (wa : (Lit.int .i64 at_).wf = true) (wy : (Lit.int .u8 y).wf = true) (wc : (Lit.int .i64 cut).wf = true) (hl2 : ts.length ≤ d) (hd : d ≤ 140737488351232) (hr2 : RB w B ts) (hB : B = none → d = 0) (hE : ErrT w)
    (hrow : 30 < rows.length) (hsel : ∀ n : Nat, n = (frames (rows.take (min rows.length 30))).length + ts.length → at_ < 0) :
    Calls Tryd.prog 5 #[.slice A rows.length c, .int .i64 at_, .int .u8 y, .int .i64 cut, .slice B ts.length d] w fun e w' => e = .returned (.bool true) ∧ Below w.heap.size w w' := by
  have by_ := bounds_u8 wy
  obtain ⟨y, rfl⟩ : ∃ z : UInt8, y = (z.toNat : Int) := ⟨UInt8.ofNat y.toNat, by simp; omega⟩
  clear by_ wa wy wc
  by_cases htl : 1048576 < ts.length
  · have hml : decide ((1048576 : Int) < (ts.length : Int)) = true := decide_eq_true (by omega)
    go_enter Tryd.func5, Tryd.ntmps5
    go_wp2_with fail
    go_ret
    exact ⟨rfl, Below.refl _ _⟩
  have hml : decide ((1048576 : Int) < (ts.length : Int)) = false := decide_eq_false (by omega)
  have htn : ts.length ≤ 1048576 := by omega
  clear htl
  obtain ⟨K, hK⟩ : ∃ K, K = min rows.length 30 := ⟨_, rfl⟩
  have hK1 : K ≤ rows.length := by omega
  have hK2 : K ≤ 30 := by omega
  have hK3 : K < rows.length → K = 30 := by omega
  have HK := Lib.hid hK
  clear hK
  go_enter Tryd.func5, Tryd.ntmps5
  go_wp2_with fail
  go_loopg [11, 12] K (fun m vb i wr => ∃ (k : Nat), m = K - k ∧ k ≤ K ∧ i = .int .i64 k ∧ wr.ownsRow w.heap.size 5 1 vb (frames (rows.take k)).length (bv (frames (rows.take k))) ∧ Below w.heap.size w wr ∧
    (frames (rows.take k)).length ≤ k * 1048584)
  case atStart => exact ⟨0, by omega, by omega, rfl, World.ownsRow_nil _ _ _ _, Below.refl _ _, by simp [frames]⟩
  case round =>
    obtain ⟨k, hm, hk, rfl, ownb, bel, hsz⟩ := hrel
    by_cases hkK : k < K
    · have hk1 : (k : Int) < (rows.length : Int) := by omega
      have hk2 : (k : Int) < 30 := by omega
      have hkl : k < rows.length := by omega
      obtain ⟨g, o, rfl, hg, hcell⟩ := hr.addr (by omega)
      obtain ⟨Bk, cb, hcl, hrb, hbc, hcb, hBk⟩ := hcell k hkl
      have hcl' := below_cell bel hcl
      have hrb' := hrb.below bel
      have htk := stake_next rows k hkl
      obtain ⟨R, hR⟩ : ∃ R, R = rows[k] := ⟨_, rfl⟩
      rw [← hR] at hcl' hrb' hbc htk
      by_cases hlong : 1048576 < R.length
      · have hdl : decide ((1048576 : Int) < (R.length : Int)) = true := decide_eq_true (by omega)
        clear hR htk ownb
        go_wp2_with fail
        go_ret
        exact ⟨rfl, bel⟩
      · obtain ⟨V, cv, rfl, hcv, hVn⟩ := own_shape ownb
        have hfln := frame_length R
        obtain ⟨F, hF⟩ : ∃ F, F = frame R := ⟨_, rfl⟩
        rw [← hF] at hfln
        have hF2 : F.length ≤ 1048584 := by omega
        have HR := Lib.hid hR
        have HF := Lib.hid hF
        have HFLN := Lib.hid hfln
        obtain ⟨fl, hfl⟩ : ∃ n, n = (frames (rows.take k)).length := ⟨_, rfl⟩
        rw [← hfl] at ownb hsz hcv ⊢
        have HFL := Lib.hid hfl
        have HTK := Lib.hid htk
        have hdl2 : (R.length : Int) ≤ 1048576 := by omega
        have hdl : decide ((1048576 : Int) < (R.length : Int)) = false := decide_eq_false (by omega)
        clear hR htk hF hfl hfln
        go_wp2_with fail
        refine (rframe_any Bk cb R wr (by omega) hrb' hBk).mono ?_
        rw [← HF.out]
        rintro e w1 ⟨vF, rfl, ownF, b1⟩
        obtain ⟨P, cp, rfl, hcp, hPn⟩ := own_shape ownF
        have bel1 := below_then bel bel.size b1
        have rF := RB.own ownF
        have ownb1 := own_below ownb b1
        clear ownb ownF
        have hEL := HFL.out.symm
        go_wp2_with (first
          | (at_builtin; refine wpList_append_bytes rfl (.tmp 54) (.tmp 55) rfl w.heap.size (.slice V fl cv) (frames (rows.take k)) F fl F.length cp P rfl rfl ownb1 rF rfl hPn hEL (by omega) bel1.size ?_
             intro vb2 w2 ownb2 hg2
             obtain ⟨V2, cv2, rfl, hcv2, hVn2⟩ := own_shape ownb2
             have bel2 : Below w.heap.size w w2 := bel1.grown hg2 bel1.size (fun q hq => (ownb1.lt q hq).1)))
        go_roundg (K - (k + 1))
        case measure => omega
        case rel =>
          have e1 : frames (rows.take (k + 1)) = frames (rows.take k) ++ F := by rw [HTK.out, frames_snoc, HF.out]
          have e2 : fl + F.length = (frames (rows.take (k + 1))).length := by rw [e1, List.length_append, ← HFL.out]
          refine ⟨k + 1, rfl, by omega, by go_num, ?_, bel2, ?_⟩
          · rw [← e2, e1]; exact ownb2
          · rw [← e2]; omega
    · obtain rfl : k = K := by omega
      obtain ⟨V, cv, rfl, hcv, hVn⟩ := own_shape ownb
      have hb : (k : Int) < (rows.length : Int) := by omega
      have hb2 : ¬ (k : Int) < 30 := by omega
      rw [← HK.out] at hsel
      have HK2 := Lib.hid hK2
      have rt := hr2.below bel
      generalize frames (rows.take k) = T0 at ownb hsz hcv hsel ⊢
      have hT0 : T0.length ≤ 31457520 := by omega
      obtain ⟨n1, hn1⟩ : ∃ n, n = T0.length + ts.length := ⟨_, rfl⟩
      have hn1b : n1 ≤ 32506096 := by omega
      have hat := hsel n1 hn1
      have hcut : cut < 0 ∨ (0 ≤ cut ∧ ¬ cut < (n1 : Int)) ∨ ∃ j : Nat, cut = (j : Int) ∧ j < n1 := by
        by_cases h : cut < 0
        · exact .inl h
        · by_cases h2 : cut < (n1 : Int)
          · exact .inr (.inr ⟨cut.toNat, by omega, by omega⟩)
          · exact .inr (.inl ⟨by omega, h2⟩)
      have HN1 := Lib.hid hn1
      have hTT : (T0 ++ ts).length = n1 := by rw [List.length_append, hn1]
      have HTT := Lib.hid hTT
      clear hsel hrow hn1 hsz hK1 hK2 hK3 hkK hm hk hTT
      have ha := hat
      clear hat
      rcases hcut with hc0 | ⟨hc0, hc1⟩ | ⟨q, rfl, hq⟩
      · have hq1 : True := trivial
        go_wp2_with (first
          | (at_builtin; refine wpList_append_bytes rfl (.tmp 57) (.tmp 58) rfl w.heap.size (.slice V T0.length cv) T0 ts T0.length ts.length d B rfl rfl ownb rt rfl hB rfl (by omega) bel.size ?_
             intro v2 w2 own2 hg2
             have bel2 : Below w.heap.size w w2 := bel.grown hg2 bel.size (fun q hq => (ownb.lt q hq).1)
             rw [← HN1.out] at own2
             obtain ⟨V2, cv2, rfl, hcv2, hVn2⟩ := own_shape own2
             have hqc : True := trivial))
        obtain ⟨w3, hw3⟩ : ∃ x, x = w2 := ⟨_, rfl⟩
        rw [← hw3] at own2 bel2 ⊢
        obtain ⟨T2, hT2⟩ : ∃ x, x = T0 ++ ts := ⟨_, rfl⟩
        have hT2l : T2.length = n1 := by rw [hT2, HTT.out]
        rw [← hT2] at own2
        have own3 := own2
        have bel3 := bel2
        obtain ⟨V3, hV3⟩ : ∃ l, l = V2 := ⟨_, rfl⟩
        rw [← hV3] at own3
        clear hw3 hT2 own2 bel2 hg2 ownb rt bel hqc hq1
        obtain ⟨len, hlen⟩ : ∃ l, l = n1 := ⟨_, rfl⟩
        have hlb : len ≤ 32506096 := by omega
        have hlc : len ≤ cv2 := by omega
        obtain ⟨bs, hbs⟩ : ∃ l, l = T2.take len := ⟨_, rfl⟩
        have rb3 := (RB.own own3).take len
        rw [← hbs] at rb3
        have hbl : bs.length = len := by rw [hbs, List.length_take]; omega
        clear own3 hbs hT2l
        subst hlen
        subst hV3
        refine (lent_len _ _ cv2 bs w3 hbl (by omega) rb3).mono ?_
        rintro e u1 ⟨rfl, b1, r1, c1, o1⟩
        have T1s := Lib.hid (o1.lt w3.heap.size rfl).2
        have D1 := Lib.hid c1
        clear c1
        go_wp2_with fail
        refine (scan_any _ _ _ bs u1 hbl (by omega) (by omega) r1).mono ?_
        rintro e u2 ⟨vl, vs, rfl, ol, all, b2⟩
        obtain ⟨Vl, cl, rfl, hcl, hVl⟩ := own_shape ol
        have k2 := below_then b1 b1.size b2
        have r2 := r1.below b2
        have o2 := own_below o1 b2
        have D2 := Lib.hid (below_cell b2 D1.out)
        have HIN := Lib.hid (fun k (h : (Value.slice (some ⟨w3.heap.size, 0, none⟩) len (len + 1)).ownBlock = some k) => (o1.lt k h).2)
        have T1 := Lib.hid b1.size
        have Q2 := Lib.hid b2.size
        clear r1 o1 D1 b1
        go_wp2_with fail
        refine (rscan_any _ _ cv2 bs u2 hbl (by omega) (by omega) (rb3.below k2)).mono ?_
        rintro e u3 ⟨vr, vs', rfl, or_, all', b3⟩
        obtain ⟨Vr, cr, rfl, hcr, hVr⟩ := own_shape or_
        have k3 := below_then k2 k2.size b3
        have r3 := r2.below b3
        have o3 := own_below o2 b3
        have ol3 := own_below ol b3
        have all3 := all.below b3
        have D3 := Lib.hid (below_cell b3 D2.out)
        have T2 := Lib.hid k2.size
        have Q3 := Lib.hid b3.size
        clear r2 o2 D2 b2 ol all
        go_wp2_with fail
        refine (kept_len w3.heap.size _ cv2 _ bs u3 hbl r3 (rb3.below k3) (by omega) D3.out).mono ?_
        rintro e u4 ⟨rfl, hu4⟩
        obtain rfl := hu4
        have bel4 := below_then bel3 bel3.size k3
        have hvl : vs'.length = vs.length := all'.1.trans all3.1.symm
        rw [hvl] at or_ hcr ⊢
        have HVL := Lib.hid hvl
        have hvb : vs.length ≤ 32506096 := by have := (scan_count bs); have := all3.1; omega
        clear hvl r3 D3 rb3 b3 k2
        go_wp2_with fail
        refine (code_any (scan bs).2.2 u4 (hE.below bel4)).mono ?_
        rintro e u5 ⟨rfl, b5⟩
        have bel5 := below_then bel4 bel4.size b5
        have k5 := below_then k3 k3.size b5
        have o5 := own_below o3 b5
        have ol5 := own_below ol3 b5
        have or5 := own_below or_ b5
        have all5 := all3.below b5
        have all6 := all'.below b5
        have Q5 := Lib.hid b5.size
        clear bel4 k3 o3 ol3 or_ all3 all' b5
        go_wp2_with fail
        clear HIN
        go_loopg [23] vs.length (fun m i wr2 => ∃ j : Nat, m = vs.length - j ∧ j ≤ vs.length ∧ i = .int .i64 j ∧ Below u5.heap.size u5 wr2)
        case atStart => exact ⟨0, by omega, by omega, rfl, Below.refl _ _⟩
        case round =>
          obtain ⟨i, hm, hi, rfl, hb5⟩ := hrel
          have bel6 := below_then bel5 bel5.size hb5
          have all7 := all5.below hb5
          have ol7 := own_below ol5 hb5
          have o7 := own_below o5 hb5
          by_cases hiv : i < vs.length
          · have all8 := all6.below hb5
            have or7 := own_below or5 hb5
            have hiv1 : (i : Int) < (vs.length : Int) := by omega
            obtain ⟨g1, rfl, _, _, hc1⟩ := own_at ol7 (by omega)
            obtain ⟨g3, rfl, _, _, hc3⟩ := own_at or7 (by omega)
            have hiv' : i < vs'.length := by rw [HVL.out]; exact hiv
            have hip : i < (scan bs).1.length := by rw [← all7.1]; exact hiv
            have hown := all7.2.1 i vs[i] _ (List.getElem?_eq_getElem hiv) (List.getElem?_eq_getElem hip)
            have hown' := all8.2.1 i vs'[i] _ (List.getElem?_eq_getElem hiv') (List.getElem?_eq_getElem hip)
            have hcl1 := hc1 i hiv
            have hcl3 := hc3 i hiv
            rw [List.getElem?_eq_getElem hiv] at hcl1
            rw [List.getElem?_eq_getElem hiv'] at hcl3
            generalize (scan bs).1[i] = R at hown hown'
            generalize vs[i] = x1 at hown hcl1
            generalize vs'[i] = x3 at hown' hcl3
            obtain ⟨S1, cs1, rfl, hcs1, _⟩ := own_shape hown
            obtain ⟨S3, cs3, rfl, hcs3, _⟩ := own_shape hown'
            have e1 := fun m => run_str _ S1 R cs1 ((RB.own hown).drewN m) 9 Tryd.underlying9
            have e2 := fun m => run_str _ S3 R cs3 ((RB.own hown').drewN m) 9 Tryd.underlying9
            have hd1 : ∀ m, (wr.drewN m).cell? ⟨g1, i, none⟩ = some (.slice S1 R.length cs1) := fun m => hcl1
            have hd3 : ∀ m, (wr.drewN m).cell? ⟨g3, i, none⟩ = some (.slice S3 R.length cs3) := fun m => hcl3
            have e3 : (R == R) = true := by simp
            clear hc1 hc3 hiv' hip hown hown' hcl1 hcl3 all7 all8 ol7 or7 o7 bel6
            go_wp2_with fail
            go_quiet (fail)
            go_wp2_with fail
            go_roundg (vs.length - (i + 1))
            case measure => omega
            case rel => exact ⟨i + 1, rfl, by omega, by go_num, below_drewN hb5 nq⟩
          · obtain rfl : i = vs.length := by omega
            have hsz7 : u1.heap.size ≤ wr.heap.size := by have := Q2.out; have := Q3.out; have := Q5.out; have := hb5.size; omega
            have hne7 : ∀ v ∈ vs, ∀ k, v.ownBlock = some k → u1.heap.size ≤ k := fun v hv k hk => (all7.lt v hv k hk).1
            go_wp2_with (first
              | (at_builtin; refine wpList_append_one wr rfl (.tmp 142) (.tmp 144) 36 rfl u1.heap.size 22 (.slice none 0 0) 24 Tryd.underlying36 info_bytes rfl (.slice Vl vs.length cl) vs.length vs rfl ol7 (.slice (some ⟨w3.heap.size, 0, none⟩) len (len + 1)) rfl rfl (by unfold maxLen; omega) (by omega) hsz7 ?_
                 intro v8 w8 own8 hg8
                 obtain ⟨V8, c8, rfl, hc8, hV8⟩ := own_shape own8
                 obtain ⟨g8, rfl, hg8a, hg8b, hcell8⟩ := own_at own8 (by omega)))
            have hb8 : Below wr.heap.size wr (wr.alloc (.cells #[Value.slice (some ⟨w3.heap.size, 0, none⟩) len (len + 1)] 22)) := below_alloc _ _
            have all8 := all7.below hb8
            have all9 : OwnAll w8 u1.heap.size vs (scan bs).1 := all8.step fun u hu q hq => by
              refine hg8.block q (all8.lt u hu q hq).2 ?_
              intro he
              obtain ⟨i, hi, rfl⟩ := List.getElem_of_mem hu
              have o1 := all8.2.1 i _ ((scan bs).1[i]'(by rw [← all8.1]; exact hi)) (List.getElem?_eq_getElem hi) (List.getElem?_eq_getElem _)
              exact own_types o1 (ol7.alloc (.cells #[Value.slice (some ⟨w3.heap.size, 0, none⟩) len (len + 1)] 22)) (by decide) q hq he.symm
            have o8 := own_below o7 hb8
            have o9 : w8.ownsRow w3.heap.size 5 1 (.slice (some ⟨w3.heap.size, 0, none⟩) len (len + 1)) len (bv bs) := by
              refine o8.kept hg8 (.inr ?_)
              intro e
              exact own_types o8 (ol7.alloc (.cells #[Value.slice (some ⟨w3.heap.size, 0, none⟩) len (len + 1)] 22)) (by decide) _ rfl e.symm
            have bel8 : Below w.heap.size w w8 := (bel6.trans (hb8.mono bel6.size)).grown hg8 (by simp; have := bel6.size; omega) (fun q hq => by have := (ol7.lt q hq).1; have := bel3.size; have := T1.out; omega)
            have how := owned_len g8 (vs.length + 1) c8 (vs ++ [.slice (some ⟨w3.heap.size, 0, none⟩) len (len + 1)]) w8 (by simp) (by omega) hcell8
              (by
                intro v hv
                rcases List.mem_append.1 hv with h | h
                · obtain ⟨i, hi, rfl⟩ := List.getElem_of_mem h
                  exact Room.own (all9.2.1 i _ ((scan bs).1[i]'(by rw [← all9.1]; exact hi)) (List.getElem?_eq_getElem hi) (List.getElem?_eq_getElem _))
                · rw [List.mem_singleton.1 h]; exact Room.own o9)
              (by
                refine List.pairwise_append.2 ⟨all9.2.2, List.pairwise_singleton _ _, fun u hu x hx k h1 h2 => ?_⟩
                rw [List.mem_singleton.1 hx] at h2
                have h3 := hne7 u hu k h1
                have h4 : w3.heap.size = k := by simpa [Value.ownBlock] using h2
                have := T1s.out
                omega)
              (by
                intro v hv h
                rcases List.mem_append.1 hv with h' | h'
                · obtain ⟨i, hi, rfl⟩ := List.getElem_of_mem h'
                  exact own_types (all9.2.1 i _ ((scan bs).1[i]'(by rw [← all9.1]; exact hi)) (List.getElem?_eq_getElem hi) (List.getElem?_eq_getElem _)) own8 (by decide) g8 h rfl
                · rw [List.mem_singleton.1 h'] at h
                  exact own_types o9 own8 (by decide) g8 h rfl)
            have hlt8 : ∀ k, OwnB (vs ++ [.slice (some ⟨w3.heap.size, 0, none⟩) len (len + 1)]) k → w.heap.size ≤ k := by
              rintro k ⟨v, hv, h⟩
              have := bel3.size
              rcases List.mem_append.1 hv with h' | h'
              · have := hne7 v h' k h
                have := T1.out
                omega
              · rw [List.mem_singleton.1 h'] at h
                have := (o9.lt k h).1
                omega
            refine how.mono ?_
            rintro e wa ⟨rfl, hout⟩
            have bela := hout.below bel8 hlt8
            clear how hout hlt8 o9 o8 all9 all8 bel8 own8 hcell8 hg8 hb8 bel6 all7 ol7 o7 hne7
            go_wp2_with fail
            refine (frame_any none 0 [] wa (by decide) (RB.nil _ _)).mono ?_
            rw [frame_length]
            rintro e wb ⟨rfl, _, bb⟩
            go_wp2_with fail
            go_ret
            exact ⟨rfl, below_then bela bela.size bb⟩
      · have hq1 : True := trivial
        go_wp2_with (first
          | (at_builtin; refine wpList_append_bytes rfl (.tmp 57) (.tmp 58) rfl w.heap.size (.slice V T0.length cv) T0 ts T0.length ts.length d B rfl rfl ownb rt rfl hB rfl (by omega) bel.size ?_
             intro v2 w2 own2 hg2
             have bel2 : Below w.heap.size w w2 := bel.grown hg2 bel.size (fun q hq => (ownb.lt q hq).1)
             rw [← HN1.out] at own2
             obtain ⟨V2, cv2, rfl, hcv2, hVn2⟩ := own_shape own2
             have hqc : True := trivial))
        obtain ⟨w3, hw3⟩ : ∃ x, x = w2 := ⟨_, rfl⟩
        rw [← hw3] at own2 bel2 ⊢
        obtain ⟨T2, hT2⟩ : ∃ x, x = T0 ++ ts := ⟨_, rfl⟩
        have hT2l : T2.length = n1 := by rw [hT2, HTT.out]
        rw [← hT2] at own2
        have own3 := own2
        have bel3 := bel2
        obtain ⟨V3, hV3⟩ : ∃ l, l = V2 := ⟨_, rfl⟩
        rw [← hV3] at own3
        clear hw3 hT2 own2 bel2 hg2 ownb rt bel hqc hq1
        obtain ⟨len, hlen⟩ : ∃ l, l = n1 := ⟨_, rfl⟩
        have hlb : len ≤ 32506096 := by omega
        have hlc : len ≤ cv2 := by omega
        obtain ⟨bs, hbs⟩ : ∃ l, l = T2.take len := ⟨_, rfl⟩
        have rb3 := (RB.own own3).take len
        rw [← hbs] at rb3
        have hbl : bs.length = len := by rw [hbs, List.length_take]; omega
        clear own3 hbs hT2l
        subst hlen
        subst hV3
        refine (lent_len _ _ cv2 bs w3 hbl (by omega) rb3).mono ?_
        rintro e u1 ⟨rfl, b1, r1, c1, o1⟩
        have T1s := Lib.hid (o1.lt w3.heap.size rfl).2
        have D1 := Lib.hid c1
        clear c1
        go_wp2_with fail
        refine (scan_any _ _ _ bs u1 hbl (by omega) (by omega) r1).mono ?_
        rintro e u2 ⟨vl, vs, rfl, ol, all, b2⟩
        obtain ⟨Vl, cl, rfl, hcl, hVl⟩ := own_shape ol
        have k2 := below_then b1 b1.size b2
        have r2 := r1.below b2
        have o2 := own_below o1 b2
        have D2 := Lib.hid (below_cell b2 D1.out)
        have HIN := Lib.hid (fun k (h : (Value.slice (some ⟨w3.heap.size, 0, none⟩) len (len + 1)).ownBlock = some k) => (o1.lt k h).2)
        have T1 := Lib.hid b1.size
        have Q2 := Lib.hid b2.size
        clear r1 o1 D1 b1
        go_wp2_with fail
        refine (rscan_any _ _ cv2 bs u2 hbl (by omega) (by omega) (rb3.below k2)).mono ?_
        rintro e u3 ⟨vr, vs', rfl, or_, all', b3⟩
        obtain ⟨Vr, cr, rfl, hcr, hVr⟩ := own_shape or_
        have k3 := below_then k2 k2.size b3
        have r3 := r2.below b3
        have o3 := own_below o2 b3
        have ol3 := own_below ol b3
        have all3 := all.below b3
        have D3 := Lib.hid (below_cell b3 D2.out)
        have T2 := Lib.hid k2.size
        have Q3 := Lib.hid b3.size
        clear r2 o2 D2 b2 ol all
        go_wp2_with fail
        refine (kept_len w3.heap.size _ cv2 _ bs u3 hbl r3 (rb3.below k3) (by omega) D3.out).mono ?_
        rintro e u4 ⟨rfl, hu4⟩
        obtain rfl := hu4
        have bel4 := below_then bel3 bel3.size k3
        have hvl : vs'.length = vs.length := all'.1.trans all3.1.symm
        rw [hvl] at or_ hcr ⊢
        have HVL := Lib.hid hvl
        have hvb : vs.length ≤ 32506096 := by have := (scan_count bs); have := all3.1; omega
        clear hvl r3 D3 rb3 b3 k2
        go_wp2_with fail
        refine (code_any (scan bs).2.2 u4 (hE.below bel4)).mono ?_
        rintro e u5 ⟨rfl, b5⟩
        have bel5 := below_then bel4 bel4.size b5
        have k5 := below_then k3 k3.size b5
        have o5 := own_below o3 b5
        have ol5 := own_below ol3 b5
        have or5 := own_below or_ b5
        have all5 := all3.below b5
        have all6 := all'.below b5
        have Q5 := Lib.hid b5.size
        clear bel4 k3 o3 ol3 or_ all3 all' b5
        go_wp2_with fail
        clear HIN
        go_loopg [23] vs.length (fun m i wr2 => ∃ j : Nat, m = vs.length - j ∧ j ≤ vs.length ∧ i = .int .i64 j ∧ Below u5.heap.size u5 wr2)
        case atStart => exact ⟨0, by omega, by omega, rfl, Below.refl _ _⟩
        case round =>
          obtain ⟨i, hm, hi, rfl, hb5⟩ := hrel
          have bel6 := below_then bel5 bel5.size hb5
          have all7 := all5.below hb5
          have ol7 := own_below ol5 hb5
          have o7 := own_below o5 hb5
          by_cases hiv : i < vs.length
          · have all8 := all6.below hb5
            have or7 := own_below or5 hb5
            have hiv1 : (i : Int) < (vs.length : Int) := by omega
            obtain ⟨g1, rfl, _, _, hc1⟩ := own_at ol7 (by omega)
            obtain ⟨g3, rfl, _, _, hc3⟩ := own_at or7 (by omega)
            have hiv' : i < vs'.length := by rw [HVL.out]; exact hiv
            have hip : i < (scan bs).1.length := by rw [← all7.1]; exact hiv
            have hown := all7.2.1 i vs[i] _ (List.getElem?_eq_getElem hiv) (List.getElem?_eq_getElem hip)
            have hown' := all8.2.1 i vs'[i] _ (List.getElem?_eq_getElem hiv') (List.getElem?_eq_getElem hip)
            have hcl1 := hc1 i hiv
            have hcl3 := hc3 i hiv
            rw [List.getElem?_eq_getElem hiv] at hcl1
            rw [List.getElem?_eq_getElem hiv'] at hcl3
            generalize (scan bs).1[i] = R at hown hown'
            generalize vs[i] = x1 at hown hcl1
            generalize vs'[i] = x3 at hown' hcl3
            obtain ⟨S1, cs1, rfl, hcs1, _⟩ := own_shape hown
            obtain ⟨S3, cs3, rfl, hcs3, _⟩ := own_shape hown'
            have e1 := fun m => run_str _ S1 R cs1 ((RB.own hown).drewN m) 9 Tryd.underlying9
            have e2 := fun m => run_str _ S3 R cs3 ((RB.own hown').drewN m) 9 Tryd.underlying9
            have hd1 : ∀ m, (wr.drewN m).cell? ⟨g1, i, none⟩ = some (.slice S1 R.length cs1) := fun m => hcl1
            have hd3 : ∀ m, (wr.drewN m).cell? ⟨g3, i, none⟩ = some (.slice S3 R.length cs3) := fun m => hcl3
            have e3 : (R == R) = true := by simp
            clear hc1 hc3 hiv' hip hown hown' hcl1 hcl3 all7 all8 ol7 or7 o7 bel6
            go_wp2_with fail
            go_quiet (fail)
            go_wp2_with fail
            go_roundg (vs.length - (i + 1))
            case measure => omega
            case rel => exact ⟨i + 1, rfl, by omega, by go_num, below_drewN hb5 nq⟩
          · obtain rfl : i = vs.length := by omega
            have hsz7 : u1.heap.size ≤ wr.heap.size := by have := Q2.out; have := Q3.out; have := Q5.out; have := hb5.size; omega
            have hne7 : ∀ v ∈ vs, ∀ k, v.ownBlock = some k → u1.heap.size ≤ k := fun v hv k hk => (all7.lt v hv k hk).1
            go_wp2_with (first
              | (at_builtin; refine wpList_append_one wr rfl (.tmp 142) (.tmp 144) 36 rfl u1.heap.size 22 (.slice none 0 0) 24 Tryd.underlying36 info_bytes rfl (.slice Vl vs.length cl) vs.length vs rfl ol7 (.slice (some ⟨w3.heap.size, 0, none⟩) len (len + 1)) rfl rfl (by unfold maxLen; omega) (by omega) hsz7 ?_
                 intro v8 w8 own8 hg8
                 obtain ⟨V8, c8, rfl, hc8, hV8⟩ := own_shape own8
                 obtain ⟨g8, rfl, hg8a, hg8b, hcell8⟩ := own_at own8 (by omega)))
            have hb8 : Below wr.heap.size wr (wr.alloc (.cells #[Value.slice (some ⟨w3.heap.size, 0, none⟩) len (len + 1)] 22)) := below_alloc _ _
            have all8 := all7.below hb8
            have all9 : OwnAll w8 u1.heap.size vs (scan bs).1 := all8.step fun u hu q hq => by
              refine hg8.block q (all8.lt u hu q hq).2 ?_
              intro he
              obtain ⟨i, hi, rfl⟩ := List.getElem_of_mem hu
              have o1 := all8.2.1 i _ ((scan bs).1[i]'(by rw [← all8.1]; exact hi)) (List.getElem?_eq_getElem hi) (List.getElem?_eq_getElem _)
              exact own_types o1 (ol7.alloc (.cells #[Value.slice (some ⟨w3.heap.size, 0, none⟩) len (len + 1)] 22)) (by decide) q hq he.symm
            have o8 := own_below o7 hb8
            have o9 : w8.ownsRow w3.heap.size 5 1 (.slice (some ⟨w3.heap.size, 0, none⟩) len (len + 1)) len (bv bs) := by
              refine o8.kept hg8 (.inr ?_)
              intro e
              exact own_types o8 (ol7.alloc (.cells #[Value.slice (some ⟨w3.heap.size, 0, none⟩) len (len + 1)] 22)) (by decide) _ rfl e.symm
            have bel8 : Below w.heap.size w w8 := (bel6.trans (hb8.mono bel6.size)).grown hg8 (by simp; have := bel6.size; omega) (fun q hq => by have := (ol7.lt q hq).1; have := bel3.size; have := T1.out; omega)
            have how := owned_len g8 (vs.length + 1) c8 (vs ++ [.slice (some ⟨w3.heap.size, 0, none⟩) len (len + 1)]) w8 (by simp) (by omega) hcell8
              (by
                intro v hv
                rcases List.mem_append.1 hv with h | h
                · obtain ⟨i, hi, rfl⟩ := List.getElem_of_mem h
                  exact Room.own (all9.2.1 i _ ((scan bs).1[i]'(by rw [← all9.1]; exact hi)) (List.getElem?_eq_getElem hi) (List.getElem?_eq_getElem _))
                · rw [List.mem_singleton.1 h]; exact Room.own o9)
              (by
                refine List.pairwise_append.2 ⟨all9.2.2, List.pairwise_singleton _ _, fun u hu x hx k h1 h2 => ?_⟩
                rw [List.mem_singleton.1 hx] at h2
                have h3 := hne7 u hu k h1
                have h4 : w3.heap.size = k := by simpa [Value.ownBlock] using h2
                have := T1s.out
                omega)
              (by
                intro v hv h
                rcases List.mem_append.1 hv with h' | h'
                · obtain ⟨i, hi, rfl⟩ := List.getElem_of_mem h'
                  exact own_types (all9.2.1 i _ ((scan bs).1[i]'(by rw [← all9.1]; exact hi)) (List.getElem?_eq_getElem hi) (List.getElem?_eq_getElem _)) own8 (by decide) g8 h rfl
                · rw [List.mem_singleton.1 h'] at h
                  exact own_types o9 own8 (by decide) g8 h rfl)
            have hlt8 : ∀ k, OwnB (vs ++ [.slice (some ⟨w3.heap.size, 0, none⟩) len (len + 1)]) k → w.heap.size ≤ k := by
              rintro k ⟨v, hv, h⟩
              have := bel3.size
              rcases List.mem_append.1 hv with h' | h'
              · have := hne7 v h' k h
                have := T1.out
                omega
              · rw [List.mem_singleton.1 h'] at h
                have := (o9.lt k h).1
                omega
            refine how.mono ?_
            rintro e wa ⟨rfl, hout⟩
            have bela := hout.below bel8 hlt8
            clear how hout hlt8 o9 o8 all9 all8 bel8 own8 hcell8 hg8 hb8 bel6 all7 ol7 o7 hne7
            go_wp2_with fail
            refine (frame_any none 0 [] wa (by decide) (RB.nil _ _)).mono ?_
            rw [frame_length]
            rintro e wb ⟨rfl, _, bb⟩
            go_wp2_with fail
            go_ret
            exact ⟨rfl, below_then bela bela.size bb⟩
      · have hq1 : (q : Int) < (n1 : Int) := by omega
        go_wp2_with (first
          | (at_builtin; refine wpList_append_bytes rfl (.tmp 57) (.tmp 58) rfl w.heap.size (.slice V T0.length cv) T0 ts T0.length ts.length d B rfl rfl ownb rt rfl hB rfl (by omega) bel.size ?_
             intro v2 w2 own2 hg2
             have bel2 : Below w.heap.size w w2 := bel.grown hg2 bel.size (fun q hq => (ownb.lt q hq).1)
             rw [← HN1.out] at own2
             obtain ⟨V2, cv2, rfl, hcv2, hVn2⟩ := own_shape own2
             have hqc : (q : Int) ≤ (cv2 : Int) := by omega))
        obtain ⟨w3, hw3⟩ : ∃ x, x = w2 := ⟨_, rfl⟩
        rw [← hw3] at own2 bel2 ⊢
        obtain ⟨T2, hT2⟩ : ∃ x, x = T0 ++ ts := ⟨_, rfl⟩
        have hT2l : T2.length = n1 := by rw [hT2, HTT.out]
        rw [← hT2] at own2
        have own3 := own2
        have bel3 := bel2
        obtain ⟨V3, hV3⟩ : ∃ l, l = V2 := ⟨_, rfl⟩
        rw [← hV3] at own3
        clear hw3 hT2 own2 bel2 hg2 ownb rt bel hqc hq1
        obtain ⟨len, hlen⟩ : ∃ l, l = q := ⟨_, rfl⟩
        have hlb : len ≤ 32506096 := by omega
        have hlc : len ≤ cv2 := by omega
        obtain ⟨bs, hbs⟩ : ∃ l, l = T2.take len := ⟨_, rfl⟩
        have rb3 := (RB.own own3).take len
        rw [← hbs] at rb3
        have hbl : bs.length = len := by rw [hbs, List.length_take]; omega
        clear own3 hbs hT2l
        subst hlen
        subst hV3
        refine (lent_len _ _ cv2 bs w3 hbl (by omega) rb3).mono ?_
        rintro e u1 ⟨rfl, b1, r1, c1, o1⟩
        have T1s := Lib.hid (o1.lt w3.heap.size rfl).2
        have D1 := Lib.hid c1
        clear c1
        go_wp2_with fail
        refine (scan_any _ _ _ bs u1 hbl (by omega) (by omega) r1).mono ?_
        rintro e u2 ⟨vl, vs, rfl, ol, all, b2⟩
        obtain ⟨Vl, cl, rfl, hcl, hVl⟩ := own_shape ol
        have k2 := below_then b1 b1.size b2
        have r2 := r1.below b2
        have o2 := own_below o1 b2
        have D2 := Lib.hid (below_cell b2 D1.out)
        have HIN := Lib.hid (fun k (h : (Value.slice (some ⟨w3.heap.size, 0, none⟩) len (len + 1)).ownBlock = some k) => (o1.lt k h).2)
        have T1 := Lib.hid b1.size
        have Q2 := Lib.hid b2.size
        clear r1 o1 D1 b1
        go_wp2_with fail
        refine (rscan_any _ _ cv2 bs u2 hbl (by omega) (by omega) (rb3.below k2)).mono ?_
        rintro e u3 ⟨vr, vs', rfl, or_, all', b3⟩
        obtain ⟨Vr, cr, rfl, hcr, hVr⟩ := own_shape or_
        have k3 := below_then k2 k2.size b3
        have r3 := r2.below b3
        have o3 := own_below o2 b3
        have ol3 := own_below ol b3
        have all3 := all.below b3
        have D3 := Lib.hid (below_cell b3 D2.out)
        have T2 := Lib.hid k2.size
        have Q3 := Lib.hid b3.size
        clear r2 o2 D2 b2 ol all
        go_wp2_with fail
        refine (kept_len w3.heap.size _ cv2 _ bs u3 hbl r3 (rb3.below k3) (by omega) D3.out).mono ?_
        rintro e u4 ⟨rfl, hu4⟩
        obtain rfl := hu4
        have bel4 := below_then bel3 bel3.size k3
        have hvl : vs'.length = vs.length := all'.1.trans all3.1.symm
        rw [hvl] at or_ hcr ⊢
        have HVL := Lib.hid hvl
        have hvb : vs.length ≤ 32506096 := by have := (scan_count bs); have := all3.1; omega
        clear hvl r3 D3 rb3 b3 k2
        go_wp2_with fail
        refine (code_any (scan bs).2.2 u4 (hE.below bel4)).mono ?_
        rintro e u5 ⟨rfl, b5⟩
        have bel5 := below_then bel4 bel4.size b5
        have k5 := below_then k3 k3.size b5
        have o5 := own_below o3 b5
        have ol5 := own_below ol3 b5
        have or5 := own_below or_ b5
        have all5 := all3.below b5
        have all6 := all'.below b5
        have Q5 := Lib.hid b5.size
        clear bel4 k3 o3 ol3 or_ all3 all' b5
        go_wp2_with fail
        clear HIN
        go_loopg [23] vs.length (fun m i wr2 => ∃ j : Nat, m = vs.length - j ∧ j ≤ vs.length ∧ i = .int .i64 j ∧ Below u5.heap.size u5 wr2)
        case atStart => exact ⟨0, by omega, by omega, rfl, Below.refl _ _⟩
        case round =>
          obtain ⟨i, hm, hi, rfl, hb5⟩ := hrel
          have bel6 := below_then bel5 bel5.size hb5
          have all7 := all5.below hb5
          have ol7 := own_below ol5 hb5
          have o7 := own_below o5 hb5
          by_cases hiv : i < vs.length
          · have all8 := all6.below hb5
            have or7 := own_below or5 hb5
            have hiv1 : (i : Int) < (vs.length : Int) := by omega
            obtain ⟨g1, rfl, _, _, hc1⟩ := own_at ol7 (by omega)
            obtain ⟨g3, rfl, _, _, hc3⟩ := own_at or7 (by omega)
            have hiv' : i < vs'.length := by rw [HVL.out]; exact hiv
            have hip : i < (scan bs).1.length := by rw [← all7.1]; exact hiv
            have hown := all7.2.1 i vs[i] _ (List.getElem?_eq_getElem hiv) (List.getElem?_eq_getElem hip)
            have hown' := all8.2.1 i vs'[i] _ (List.getElem?_eq_getElem hiv') (List.getElem?_eq_getElem hip)
            have hcl1 := hc1 i hiv
            have hcl3 := hc3 i hiv
            rw [List.getElem?_eq_getElem hiv] at hcl1
            rw [List.getElem?_eq_getElem hiv'] at hcl3
            generalize (scan bs).1[i] = R at hown hown'
            generalize vs[i] = x1 at hown hcl1
            generalize vs'[i] = x3 at hown' hcl3
            obtain ⟨S1, cs1, rfl, hcs1, _⟩ := own_shape hown
            obtain ⟨S3, cs3, rfl, hcs3, _⟩ := own_shape hown'
            have e1 := fun m => run_str _ S1 R cs1 ((RB.own hown).drewN m) 9 Tryd.underlying9
            have e2 := fun m => run_str _ S3 R cs3 ((RB.own hown').drewN m) 9 Tryd.underlying9
            have hd1 : ∀ m, (wr.drewN m).cell? ⟨g1, i, none⟩ = some (.slice S1 R.length cs1) := fun m => hcl1
            have hd3 : ∀ m, (wr.drewN m).cell? ⟨g3, i, none⟩ = some (.slice S3 R.length cs3) := fun m => hcl3
            have e3 : (R == R) = true := by simp
            clear hc1 hc3 hiv' hip hown hown' hcl1 hcl3 all7 all8 ol7 or7 o7 bel6
            go_wp2_with fail
            go_quiet (fail)
            go_wp2_with fail
            go_roundg (vs.length - (i + 1))
            case measure => omega
            case rel => exact ⟨i + 1, rfl, by omega, by go_num, below_drewN hb5 nq⟩
          · obtain rfl : i = vs.length := by omega
            have hsz7 : u1.heap.size ≤ wr.heap.size := by have := Q2.out; have := Q3.out; have := Q5.out; have := hb5.size; omega
            have hne7 : ∀ v ∈ vs, ∀ k, v.ownBlock = some k → u1.heap.size ≤ k := fun v hv k hk => (all7.lt v hv k hk).1
            go_wp2_with (first
              | (at_builtin; refine wpList_append_one wr rfl (.tmp 142) (.tmp 144) 36 rfl u1.heap.size 22 (.slice none 0 0) 24 Tryd.underlying36 info_bytes rfl (.slice Vl vs.length cl) vs.length vs rfl ol7 (.slice (some ⟨w3.heap.size, 0, none⟩) len (len + 1)) rfl rfl (by unfold maxLen; omega) (by omega) hsz7 ?_
                 intro v8 w8 own8 hg8
                 obtain ⟨V8, c8, rfl, hc8, hV8⟩ := own_shape own8
                 obtain ⟨g8, rfl, hg8a, hg8b, hcell8⟩ := own_at own8 (by omega)))
            have hb8 : Below wr.heap.size wr (wr.alloc (.cells #[Value.slice (some ⟨w3.heap.size, 0, none⟩) len (len + 1)] 22)) := below_alloc _ _
            have all8 := all7.below hb8
            have all9 : OwnAll w8 u1.heap.size vs (scan bs).1 := all8.step fun u hu q hq => by
              refine hg8.block q (all8.lt u hu q hq).2 ?_
              intro he
              obtain ⟨i, hi, rfl⟩ := List.getElem_of_mem hu
              have o1 := all8.2.1 i _ ((scan bs).1[i]'(by rw [← all8.1]; exact hi)) (List.getElem?_eq_getElem hi) (List.getElem?_eq_getElem _)
              exact own_types o1 (ol7.alloc (.cells #[Value.slice (some ⟨w3.heap.size, 0, none⟩) len (len + 1)] 22)) (by decide) q hq he.symm
            have o8 := own_below o7 hb8
            have o9 : w8.ownsRow w3.heap.size 5 1 (.slice (some ⟨w3.heap.size, 0, none⟩) len (len + 1)) len (bv bs) := by
              refine o8.kept hg8 (.inr ?_)
              intro e
              exact own_types o8 (ol7.alloc (.cells #[Value.slice (some ⟨w3.heap.size, 0, none⟩) len (len + 1)] 22)) (by decide) _ rfl e.symm
            have bel8 : Below w.heap.size w w8 := (bel6.trans (hb8.mono bel6.size)).grown hg8 (by simp; have := bel6.size; omega) (fun q hq => by have := (ol7.lt q hq).1; have := bel3.size; have := T1.out; omega)
            have how := owned_len g8 (vs.length + 1) c8 (vs ++ [.slice (some ⟨w3.heap.size, 0, none⟩) len (len + 1)]) w8 (by simp) (by omega) hcell8
              (by
                intro v hv
                rcases List.mem_append.1 hv with h | h
                · obtain ⟨i, hi, rfl⟩ := List.getElem_of_mem h
                  exact Room.own (all9.2.1 i _ ((scan bs).1[i]'(by rw [← all9.1]; exact hi)) (List.getElem?_eq_getElem hi) (List.getElem?_eq_getElem _))
                · rw [List.mem_singleton.1 h]; exact Room.own o9)
              (by
                refine List.pairwise_append.2 ⟨all9.2.2, List.pairwise_singleton _ _, fun u hu x hx k h1 h2 => ?_⟩
                rw [List.mem_singleton.1 hx] at h2
                have h3 := hne7 u hu k h1
                have h4 : w3.heap.size = k := by simpa [Value.ownBlock] using h2
                have := T1s.out
                omega)
              (by
                intro v hv h
                rcases List.mem_append.1 hv with h' | h'
                · obtain ⟨i, hi, rfl⟩ := List.getElem_of_mem h'
                  exact own_types (all9.2.1 i _ ((scan bs).1[i]'(by rw [← all9.1]; exact hi)) (List.getElem?_eq_getElem hi) (List.getElem?_eq_getElem _)) own8 (by decide) g8 h rfl
                · rw [List.mem_singleton.1 h'] at h
                  exact own_types o9 own8 (by decide) g8 h rfl)
            have hlt8 : ∀ k, OwnB (vs ++ [.slice (some ⟨w3.heap.size, 0, none⟩) len (len + 1)]) k → w.heap.size ≤ k := by
              rintro k ⟨v, hv, h⟩
              have := bel3.size
              rcases List.mem_append.1 hv with h' | h'
              · have := hne7 v h' k h
                have := T1.out
                omega
              · rw [List.mem_singleton.1 h'] at h
                have := (o9.lt k h).1
                omega
            refine how.mono ?_
            rintro e wa ⟨rfl, hout⟩
            have bela := hout.below bel8 hlt8
            clear how hout hlt8 o9 o8 all9 all8 bel8 own8 hcell8 hg8 hb8 bel6 all7 ol7 o7 hne7
            go_wp2_with fail
            refine (frame_any none 0 [] wa (by decide) (RB.nil _ _)).mono ?_
            rw [frame_length]
            rintro e wb ⟨rfl, _, bb⟩
            go_wp2_with fail
            go_ret
            exact ⟨rfl, below_then bela bela.size bb⟩
end Go.Proofs.YtocjfiahkdpicaaDoor
