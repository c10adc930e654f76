/- muntinlaw01.WireRows is true, whatever the rows: the law's own walk. -/
import Derived.Test.YtocjfiahkdpicaaDoorCodeAny
import Derived.Test.YtocjfiahkdpicaaDoorBlob
import Derived.Test.YtocjfiahkdpicaaDoorBackPlain
import Derived.Test.YtocjfiahkdpicaaDoorRowsRead
import Derived.Deep.LoopGhost
set_option linter.unusedVariables false
set_option linter.unusedSimpArgs false
namespace Go.Proofs.YtocjfiahkdpicaaDoor
open Go.RowKit

/-- blobs one behind another -/
def blobs (rows : List (List UInt8)) : List UInt8 := (rows.map blob).flatten
theorem blobs_snoc (rows : List (List UInt8)) (r : List UInt8) : blobs (rows ++ [r]) = blobs rows ++ blob r := by simp [blobs]
theorem blobs_cons (r : List UInt8) (rows : List (List UInt8)) : blobs (r :: rows) = blob r ++ blobs rows := rfl
theorem blob_length (p : List UInt8) (h : p.length ≤ 65536) : p.length < (blob p).length ∧ (blob p).length ≤ p.length + 9 := by
  have := digs_len8 p.length (by omega)
  have := numb_length p.length
  unfold blob
  rw [List.length_append]
  omega
theorem rtake_next {α : Type} (l : List α) (k : Nat) (h : k < l.length) : l.take (k + 1) = l.take k ++ [l[k]] := by rw [List.take_succ_eq_append_getElem h]
theorem rdrop_next {α : Type} (l : List α) (k : Nat) (h : k < l.length) : l.drop k = l[k] :: l.drop (k + 1) := List.drop_eq_getElem_cons h
theorem tblE_nil : tblE [] = 3 := by decide

set_option maxRecDepth 100000 in
set_option maxHeartbeats 2000000 in
theorem wireRows_walk (A : Option Addr) (c : Nat) (rows : List (List UInt8)) (w : World) (hl : rows.length ≤ c) (hc : c ≤ 140737488351232) (hr : RR w A rows) (hE : ErrT w) :
    Calls Tryd.prog 8 #[.slice A rows.length c] w fun e w' => e = .returned (.bool true) ∧ Below w.heap.size w w' := by
  obtain ⟨K, hK⟩ : ∃ K, K = min rows.length 20 := ⟨_, rfl⟩
  have hK1 : K ≤ rows.length := by omega
  have hK2 : K ≤ 20 := by omega
  have hK3 : K < rows.length → K = 20 := by omega
  clear hK
  go_enter Tryd.func8, Tryd.ntmps8
  go_wp2_with fail
  go_loopg [3, 4] K (fun m vb i wr => ∃ (k : Nat), m = K - k ∧ k ≤ K ∧ i = .int .i64 k ∧ wr.ownsRow w.heap.size 5 1 vb (blobs (rows.take k)).length (bv (blobs (rows.take k))) ∧ Below w.heap.size w wr ∧
    (∀ r ∈ rows.take k, r.length ≤ 65536) ∧ (blobs (rows.take k)).length ≤ k * 65545)
  case atStart => exact ⟨0, by omega, by omega, rfl, World.ownsRow_nil _ _ _ _, Below.refl _ _, by simp, by simp [blobs]⟩
  case round =>
    obtain ⟨k, hm, hk, rfl, ownb, bel, hall, hsz⟩ := hrel
    by_cases hkK : k < K
    · have hk1 : (k : Int) < (rows.length : Int) := by omega
      have hk2 : (k : Int) < 20 := by omega
      have hkl : k < rows.length := by omega
      obtain ⟨g, o, rfl, hg, hcell⟩ := hr.addr (by omega)
      obtain ⟨B, cb, hcl, hrb, hbc, hcb, hB⟩ := hcell k hkl
      have hcl' := below_cell bel hcl
      have hrb' := hrb.below bel
      have htk := rtake_next rows k hkl
      obtain ⟨R, hR⟩ : ∃ R, R = rows[k] := ⟨_, rfl⟩
      rw [← hR] at hcl' hrb' hbc htk
      by_cases hlong : 1048576 < R.length
      · have hdl : decide ((1048576 : Int) < (R.length : Int)) = true := decide_eq_true (by omega)
        clear hR htk ownb
        go_wp2_with fail
        go_ret
        exact ⟨rfl, bel⟩
      · by_cases hlong2 : 65536 < R.length
        · have hdl : decide ((65536 : Int) < (R.length : Int)) = true := decide_eq_true (by omega)
          have hdl2 : (R.length : Int) ≤ 1048576 := by omega
          clear hR htk ownb
          go_wp2_with fail
          refine (blob_long B R.length cb wr hlong2 (by omega)).mono ?_
          rintro e w1 ⟨rfl, rfl⟩
          go_wp2_with fail
          go_ret
          exact ⟨rfl, bel⟩
        · obtain ⟨V, cv, rfl, hcv, hVn⟩ := own_shape ownb
          obtain ⟨hb1, hb2⟩ := blob_length R (by omega)
          obtain ⟨F, hF⟩ : ∃ F, F = blob R := ⟨_, rfl⟩
          rw [← hF] at hb1 hb2
          have HR := Lib.hid hR
          have HF := Lib.hid hF
          obtain ⟨fl, hfl⟩ : ∃ n, n = (blobs (rows.take k)).length := ⟨_, rfl⟩
          rw [← hfl] at ownb hsz hcv ⊢
          have HFL := Lib.hid hfl
          have HTK := Lib.hid htk
          have hdl2 : (R.length : Int) ≤ 1048576 := by omega
          clear hR htk hF hfl
          go_wp2_with fail
          refine (blob_any B R.length cb R wr rfl (by omega) hrb' hB).mono ?_
          rw [← HF.out]
          rintro e w1 ⟨vF, rfl, ownF, b1⟩
          obtain ⟨P, cp, rfl, hcp, hPn⟩ := own_shape ownF
          have bel1 := below_then bel bel.size b1
          have rF := RB.own ownF
          have ownb1 : w1.ownsRow w.heap.size 5 1 (.slice V fl cv) fl (bv (blobs (rows.take k))) := ownb.kept (row := none) ⟨b1.os, b1.tape, b1.output, b1.size, fun k hk _ => b1.block k hk⟩ (by cases h : Value.ownBlock (.slice V fl cv) <;> simp)
          clear ownb ownF
          have hcl1 := below_cell bel1 hcl
          rw [← HR.out] at hcl1
          have hlen : (F.length : Int) ≤ (R.length : Int) → False := by omega
          have hlt : ¬ (F.length : Int) ≤ (R.length : Int) := by omega
          have hEL := HFL.out.symm
          go_wp2_with (first
            | (at_builtin; refine wpList_append_bytes rfl (.tmp 60) (.tmp 61) rfl w.heap.size (.slice V fl cv) (blobs (rows.take k)) F fl F.length cp P rfl rfl ownb1 rF rfl hPn hEL (by omega) bel1.size ?_
               intro vb2 w2 ownb2 hg2
               obtain ⟨V2, cv2, rfl, hcv2, hVn2⟩ := own_shape ownb2
               have bel2 : Below w.heap.size w w2 := bel1.grown hg2 bel1.size (fun q hq => (ownb1.lt q hq).1)))
          go_roundg (K - (k + 1))
          case measure => omega
          case rel =>
            have e1 : blobs (rows.take (k + 1)) = blobs (rows.take k) ++ F := by rw [HTK.out, blobs_snoc, HF.out]
            have e2 : fl + F.length = (blobs (rows.take (k + 1))).length := by rw [e1, List.length_append, ← HFL.out]
            refine ⟨k + 1, rfl, by omega, by go_num, ?_, bel2, ?_, ?_⟩
            · rw [← e2, e1]; exact ownb2
            · rw [HTK.out]
              intro r hr
              rcases List.mem_append.1 hr with h | h
              · exact hall r h
              · rw [List.mem_singleton.1 h]; omega
            · rw [← e2]; omega
    · obtain rfl : k = K := by omega
      clear hkK hm hk
      obtain ⟨V, cv, rfl, hcv, hVn⟩ := own_shape ownb
      have hrl : (rows.take k).length = k := by simp; omega
      have hboth : (¬ (k : Int) < (rows.length : Int)) ∨ ((k : Int) < (rows.length : Int) ∧ ¬ (k : Int) < 20) := by omega
      have rb0 := RB.own ownb
      obtain ⟨R0, hR0⟩ : ∃ R, R = rows.take k := ⟨_, rfl⟩
      rw [← hR0] at ownb hall hsz hrl rb0 hcv ⊢
      have HR0 := Lib.hid hR0
      have HK1 := Lib.hid hK1
      have HK2 := Lib.hid hK2
      clear hK1 hK2 hK3 ownb hR0
      rcases hboth with hb | ⟨hb, hb2⟩
      all_goals
        go_wp2_with fail
        go_loopg [3, 7] k (fun m vb i wr => ∃ (j len cv : Nat) (V : Option Addr), m = k - j ∧ j ≤ k ∧ i = .int .i64 j ∧ vb = .slice V len cv ∧ (blobs (R0.drop j)).length = len ∧ len ≤ cv ∧ (len : Int) ≤ 2000000 ∧ RB wr V (blobs (R0.drop j)) ∧ Below w.heap.size w wr)
        case atStart => exact ⟨0, _, cv, V, by omega, by omega, rfl, rfl, rfl, hcv, by have := HK2.out; omega, rb0, bel⟩
        case round =>
          clear rb0 bel hcv
          obtain ⟨j, len, cv, V, hm, hj, rfl, rfl, hlen, hcv, hl2, rb, bel⟩ := hrel
          by_cases hjk : j < k
          · have hk1 := HK1.out
            have hk2 := HK2.out
            have hj1 : (j : Int) < (rows.length : Int) := by omega
            have hj2 : (j : Int) < 20 := by omega
            obtain ⟨gr, o, rfl, hgr, hcr⟩ := hr.addr (by omega)
            obtain ⟨B, cb, hcrj, hrb, hbc, hcb, hB⟩ := hcr j (by omega)
            obtain ⟨R, hR⟩ : ∃ R, R = rows[j] := ⟨_, rfl⟩
            rw [← hR] at hcrj hrb hbc
            have hdr : R0.drop j = R :: R0.drop (j + 1) := by
              rw [rdrop_next R0 j (by omega)]
              congr 1
              apply Option.some.inj
              rw [← List.getElem?_eq_getElem (show j < R0.length by omega), hR, ← List.getElem?_eq_getElem (show j < rows.length by omega), HR0.out, List.getElem?_take_of_lt hjk]
            have hRm : R ∈ R0 := by
              have : R ∈ R0.drop j := by rw [hdr]; simp
              exact List.mem_of_mem_drop this
            have hRl := hall R hRm
            obtain ⟨hb1, hb2'⟩ := blob_length R hRl
            obtain ⟨t1, t2, t3⟩ := take_blob R hRl (blobs (R0.drop (j + 1)))
            rw [← blobs_cons, ← hdr] at t1 t2 t3
            have hlr : len = (blob R).length + (blobs (R0.drop (j + 1))).length := by rw [← hlen, hdr, blobs_cons, List.length_append]
            have hdrop : (blobs (R0.drop j)).drop (blob R).length = blobs (R0.drop (j + 1)) := by rw [hdr, blobs_cons, List.drop_left]
            have htb := fun w h => takeblob_any V len cv (blobs (R0.drop j)) w hlen hcv (by omega) h
            rw [t1, t2, t3, errV_zero] at htb
            obtain ⟨u, hu⟩ : ∃ u, u = (blob R).length := ⟨_, rfl⟩
            rw [← hu] at hlr hdrop htb hb1 hb2'
            have HU := Lib.hid hu
            have HDR := Lib.hid hdr
            have HDP := Lib.hid hdrop
            have HLR := Lib.hid hlr
            have HLE := Lib.hid hlen
            have hul : (u : Int) ≤ (len : Int) := by omega
            have hul2 : (u : Int) ≤ (cv : Int) := by omega
            have hul3 : u ≤ len := by omega
            obtain ⟨gv, ov, rfl, hgv, _⟩ := rb.addr (by omega)
            clear t1 t2 t3 hR hu hdr hdrop hlr hlen hcr hcb hk1 hk2
            go_wp2_with fail
            refine (htb wr rb).mono ?_
            rintro e w1 ⟨v, rfl, ownv, b1⟩
            obtain ⟨S, cs, rfl, hcs, _⟩ := own_shape ownv
            have bel1 := below_then bel bel.size b1
            have hcr2 := below_cell bel1 hcrj
            have e1 := fun m => run_str _ S R cs ((RB.own ownv).drewN m) 9 Tryd.underlying9
            have e2 := fun m => run_str _ B R cb ((hrb.below bel1).drewN m) 9 Tryd.underlying9
            have hcr' : ∀ m, (w1.drewN m).cell? ⟨gr, o + j, none⟩ = some (.slice B R.length cb) := fun m => hcr2
            have e3 : (R == R) = true := by simp
            have r2 := (rb.below b1).drop u
            rw [HDP.out] at r2
            clear htb ownv rb hcr2
            go_wp2_with fail
            go_quiet (fail)
            have bel2 : Below w.heap.size w (w1.drewN nq) := ⟨bel1.os, bel1.tape, bel1.output, bel1.size, bel1.block⟩
            have r3 := r2.drewN nq
            clear r2 e1 e2 hcr'
            by_cases hcu : cv = u
            · subst hcu
              have hlcv : len = cv := by omega
              subst hlcv
              have e4 := HLR.out
              have e5 : blobs (R0.drop (j + 1)) = [] := List.eq_nil_of_length_eq_zero (by omega)
              clear e4
              go_wp2_with fail
              go_roundg (k - (j + 1))
              case measure => omega
              case rel =>
                exact ⟨j + 1, 0, 0, some ⟨gv, ov, none⟩, rfl, by omega, by go_num, rfl, by rw [e5]; rfl, by omega, by omega, by rw [e5]; exact RB.nil _ _, bel2⟩
            · go_wp2_with fail
              go_roundg (k - (j + 1))
              case measure => omega
              case rel =>
                have e4 := HLR.out
                refine ⟨j + 1, len - u, cv - u, _, rfl, by omega, by go_num, rfl, by omega, by omega, by omega, r3, bel2⟩
          · obtain rfl : j = k := by omega
            rw [List.drop_of_length_le (by omega)] at rb hlen
            obtain rfl : len = 0 := by simpa [blobs] using hlen.symm
            have hjj : ¬ ((j : Int) < (rows.length : Int) ∧ (j : Int) < 20) := by omega
            go_wp2_with fail
            refine (takeblob_any V 0 cv [] wr rfl (by omega) (by omega) (RB.nil _ _)).mono ?_
            rw [tblE_nil]
            rintro e w1 ⟨v, rfl, _, b1⟩
            have bel1 := below_then bel bel.size b1
            go_wp2_with fail
            refine (code_any 3 _ (hE.below bel1)).mono ?_
            rintro e w2 ⟨rfl, b2⟩
            go_wp2_with fail
            go_ret
            exact ⟨rfl, below_then bel1 bel1.size b2⟩
end Go.Proofs.YtocjfiahkdpicaaDoor
