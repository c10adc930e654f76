/- (*muntinref21.Trail).Merge: the contract. -/
import Derived.Test.YtkjpfjgaabbggaaDoorUCompact
import Derived.Test.YtkjpfjgaabbggaaDoorTMerged
import Derived.Deep.LoopGhost
import Derived.Deep.CutRange
set_option linter.unusedVariables false
set_option linter.unusedSimpArgs false
namespace Go.Proofs.YtkjpfjgaabbggaaDoor
open Go.RowKit

/-- one that the trail lacks -/
def newAt (i t : Int) (es : List Ent) (e : Ent) : Prop := i < e.i ∧ isNew i t es e = true
instance (i t : Int) (es : List Ent) (e : Ent) : Decidable (newAt i t es e) := by unfold newAt; infer_instance
theorem mergeT_far {i t : Int} {es : List Ent} {prev term : Int} {l : List Ent} (hok : okNew prev term l = true) (h : i + es.length < prev) : mergeT i t es prev term l = (92, 0, es, []) := by
  unfold mergeT
  rw [if_neg (by rw [hok]; decide), if_pos h]
theorem mergeT_before {i t : Int} {es : List Ent} {prev term : Int} {l : List Ent} (hok : okNew prev term l = true) (h1 : prev ≤ i + es.length) (h : prev + l.length < i) : mergeT i t es prev term l = (0, prev + l.length, es, []) := by
  unfold mergeT
  rw [if_neg (by rw [hok]; decide), if_neg (by omega), if_pos h]
theorem okNew_follows {i t : Int} {es : List Ent} (h : okNew i t es = true) : 0 ≤ i ∧ 0 ≤ t ∧ i ≤ 1099511627776 ∧ follows i t es = true := by
  unfold okNew at h
  rw [Bool.and_eq_true, decide_eq_true_eq] at h
  exact ⟨h.1.1, h.1.2.1, h.1.2.2, h.2⟩
theorem merge_found {i t : Int} {es : List Ent} {prev term : Int} {l : List Ent} (hok : okNew prev term l = true) (h1 : prev ≤ i + es.length) (hM : prev + l.length < i ∨ termT i t es (max prev i) = termN term l (i - prev).toNat) (j : Nat) (hj : j < l.length) (hn : newAt i t es l[j]) (hb : ∀ j' (h : j' < l.length), j' < j → ¬ newAt i t es l[j']) :
    ∃ a : Nat, (a : Int) = prev + j - i ∧ a ≤ es.length ∧ mergeT i t es prev term l = (0, prev + l.length, es.take a ++ l.drop j, l.drop j) := by
  obtain ⟨hp0, _, _, hf⟩ := okNew_follows hok
  have hi : ∀ k (h : k < l.length), l[k].i = prev + 1 + k := fun k h => follows_get hf k h
  have hnj := hn.1
  rw [hi j hj] at hnj
  obtain ⟨s, hs⟩ : ∃ s, s = (i - prev).toNat := ⟨_, rfl⟩
  have hsj : s ≤ j := by omega
  rcases hM with h | hM
  · omega
  have hl' : ∀ k (h : k < (l.drop s).length), (l.drop s)[k] = l[s + k]'(by rw [List.length_drop] at h; omega) := fun k h => by rw [List.getElem_drop]
  have hk : j - s < (l.drop s).length := by rw [List.length_drop]; omega
  have hold : ∀ k (h : k < (l.drop s).length), k < j - s → isNew i t es (l.drop s)[k] = false := fun k h hkj => by
    rw [hl' k h]
    rw [List.length_drop] at h
    have hnn := hb (s + k) (by omega) (by omega)
    rcases hc : isNew i t es (l[s + k]'(by omega)) with _ | _
    · rfl
    · exact absurd ⟨by rw [hi]; omega, hc⟩ hnn
  have hfi : (l.drop s).findIdx (isNew i t es) = j - s := by
    rw [List.findIdx_eq hk]
    refine ⟨?_, fun k hkj => hold k (by omega) hkj⟩
    rw [hl' _ hk]
    simp only [show s + (j - s) = j by omega]
    exact hn.2
  have hm := mergeT_some hok h1 (by omega) (P := max prev i) rfl (T := termN term l (i - prev).toNat) rfl (l' := l.drop s) (by rw [hs]) hM hfi hk
  refine ⟨(max prev i + ((j - s : Nat) : Int) - i).toNat, by omega, ?_, ?_⟩
  · by_cases h0 : j = s
    · omega
    · have h2 := hold (j - s - 1) (by omega) (by omega)
      rw [hl' _ (by omega)] at h2
      have h3 := notNew h2
      have h4 := of_decide_eq_true h3.1
      rw [hi] at h4
      omega
  · rw [hm, List.drop_drop, show s + (j - s) = j by omega]
theorem merge_none {i t : Int} {es : List Ent} {prev term : Int} {l : List Ent} (hok : okNew prev term l = true) (h1 : prev ≤ i + es.length) (hM : prev + l.length < i ∨ termT i t es (max prev i) = termN term l (i - prev).toNat) (hb : ∀ j' (h : j' < l.length), ¬ newAt i t es l[j']) :
    mergeT i t es prev term l = (0, prev + l.length, es, []) := by
  by_cases hfar : prev + l.length < i
  · exact mergeT_before hok h1 hfar
  obtain ⟨hp0, _, _, hf⟩ := okNew_follows hok
  have hi : ∀ k (h : k < l.length), l[k].i = prev + 1 + k := fun k h => follows_get hf k h
  refine mergeT_none hok h1 (by omega) (P := max prev i) rfl (T := termN term l (i - prev).toNat) rfl (l' := l.drop (i - prev).toNat) rfl (hM.resolve_left hfar) fun hk => ?_
  have hp := List.findIdx_getElem (w := hk)
  rw [List.getElem_drop] at hp
  exact hb _ _ ⟨by rw [hi]; omega, hp⟩
theorem RB.growR {w w' : World} {A : Option Addr} {bs : List UInt8} {base p : Nat} {i t : Int} {v : Value} {es : List Ent} {Ds : List Value} (h : RB w A bs) (hT : RTO w base p i t v es Ds) (hg : w.grownBy w' (some p)) : RB w' A bs := by
  refine h.step fun a ha h0 => hg.block _ (h.lt ha h0) ?_
  intro e
  obtain ⟨b, o, hA, hb, hc⟩ := h.addr h0
  rw [ha] at hA
  cases hA
  injection e with e
  simp only at e
  subst e
  have hc0 := hc 0 h0
  obtain ⟨L, c, rfl, -⟩ := hT.2.2.re
  simp only [World.cell?, hT.2.1, Option.isSome_none, Bool.false_eq_true, ↓reduceIte, Nat.add_zero] at hc0
  match o, hc0 with
  | 0, hc0 => simp at hc0
  | 1, hc0 => simp at hc0
  | 2, hc0 => simp at hc0
  | o + 3, hc0 => simp at hc0
theorem RE.growR {w w' : World} {A : Option Addr} {l : List Ent} {Dl : List Value} {base p : Nat} {i t : Int} {v : Value} {es : List Ent} {Ds : List Value} (h : RE w A l Dl) (hT : RTO w base p i t v es Ds) (hg : w.grownBy w' (some p)) : RE w' A l Dl := by
  by_cases h0 : l.length = 0
  · obtain rfl := List.eq_nil_of_length_eq_zero h0
    obtain rfl : Dl = [] := List.eq_nil_of_length_eq_zero (by rw [h.1]; rfl)
    exact RE.nil _ _
  · obtain ⟨b, o, rfl, hb, hc⟩ := h.addr (by omega)
    have hbp : b ≠ p := by
      intro e
      subst e
      obtain ⟨-, -, -, h3⟩ := ecells_get h.1 0 (by omega) (by rw [h.1]; omega)
      have hc3 := hc _ _ h3
      simp [World.cell?, hT.2.1] at hc3
    refine ⟨h.1, fun j u hj => ⟨_, rfl, ?_⟩, fun j h1 h2 => ?_⟩
    · rw [Addr.add_lit, cell_block (w := w) (hg.block b hb (by simpa using hbp))]
      exact hc j u hj
    · obtain ⟨B, c, e1, e2, e3⟩ := h.2.2 j h1 h2
      exact ⟨B, c, e1, e2.growR hT hg, e3⟩
theorem OE.append {w w9 : World} {base n : Nat} {v v9 : Value} {es fs : List Ent} {Ds Fs : List Value} (h : OE w base v es Ds) (h2 : ∀ i (h1 : i < fs.length) (h2 : i < Fs.length), OD w base Fs[i] fs[i].d) (hF : Fs.length = fs.length) (own9 : w9.ownsRow base 44 4 v9 n (ecells (es ++ fs) (Ds ++ Fs))) (hn : (es ++ fs).length = n) (g9 : w.grownBy w9 v.ownBlock) : OE w9 base v9 (es ++ fs) (Ds ++ Fs) := by
  have hk : ∀ {D' : Value} {d' : List UInt8}, OD w base D' d' → OD w9 base D' d' := fun o => ⟨own_step o.1 fun k hk => g9.block k (o.1.lt k hk).2 (fun e => row_types o.1 h.2.1 (by decide) k hk e.symm), o.2⟩
  refine ⟨by simp [h.1, hF], by rw [hn]; exact own9, fun i h1 h3 => ?_⟩
  by_cases hi : i < es.length
  · have hi2 : i < Ds.length := by rw [h.1]; exact hi
    rw [List.getElem_append_left hi2, List.getElem_append_left hi]
    exact hk (h.2.2 i hi hi2)
  · have hi2 : ¬ i < Ds.length := by rw [h.1]; exact hi
    rw [List.getElem_append_right (by omega), List.getElem_append_right (by omega)]
    simp only [h.1]
    exact hk (h2 _ _ _)
def RMergePost (w : World) (base q : Nat) (i t : Int) (v : Value) (Ds : List Value) (R : Nat × Int × List Ent × List Ent) (e : Ending) (w' : World) : Prop :=
  ∃ M v' Ds' Dm, e = .returned (.tuple #[.int .i64 R.2.1, M, .int .i64 R.1]) ∧ w.grownBy w' (some q) ∧ RTO w' base q i t v' R.2.2.1 Ds' ∧ OE w' w.heap.size M R.2.2.2 Dm ∧ (∀ k, OwnT v' Ds' k → OwnT v Ds k ∨ w.heap.size ≤ k)

set_option maxRecDepth 100000 in
set_option maxHeartbeats 4000000 in
theorem rmerge_bad (q : Nat) (A : Option Addr) (len ca : Nat) (l : List Ent) (Dl : List Value) (prev term : Int) (w : World) (hrl : RE w A l Dl) (hl : l.length = len) (h2 : len ≤ 10000000000000) (wp : (Lit.int .i64 prev).wf = true) (hok : okNew prev term l = false) :
    Calls Tryd.prog 45 #[.pointer (some ⟨q, 0, none⟩), .int .i64 prev, .int .i64 term, .slice A len ca] w fun e w' => e = .returned (.tuple #[.int .i64 0, .slice none 0 0, .int .i64 1]) ∧ w' = w := by
  by_cases hM : prev ≤ 1099511627776
  · have HRW := Lib.hid (row_any A len ca l Dl prev term w hrl hl (wf_lo wp).1 (by omega) h2)
    by_cases h0 : prev < 0
    · clear hrl hok
      go_enter Tryd.func45, Tryd.ntmps45
      go_wp2_with fail
      refine HRW.out.mono ?_
      rintro e w1 ⟨rfl, rfl⟩
      go_wp2_with fail
      go_ret3
      exact ⟨rfl, rfl⟩
    · have hM2 : ¬ (1099511627776 : Int) < prev := by omega
      by_cases h1 : term < 0
      · clear hrl hok
        go_enter Tryd.func45, Tryd.ntmps45
        go_wp2_with fail
        refine HRW.out.mono ?_
        rintro e w1 ⟨rfl, rfl⟩
        go_wp2_with fail
        go_ret3
        exact ⟨rfl, rfl⟩
      · have hf : follows prev term l = false := by
          unfold okNew at hok
          rw [decide_eq_true (by omega), Bool.true_and] at hok
          exact hok
        rw [hf] at HRW
        clear hrl hok hf
        go_enter Tryd.func45, Tryd.ntmps45
        go_wp2_with fail
        refine HRW.out.mono ?_
        rintro e w1 ⟨rfl, rfl⟩
        go_wp2_with fail
        go_ret3
        exact ⟨rfl, rfl⟩
  · have hM2 : (1099511627776 : Int) < prev := by omega
    have h0 : ¬ prev < 0 := by omega
    clear hrl hok
    go_enter Tryd.func45, Tryd.ntmps45
    go_wp2_with fail
    go_ret3
    exact ⟨rfl, rfl⟩

set_option maxRecDepth 100000 in
set_option maxHeartbeats 16000000 in
theorem rmerge_ok (base q : Nat) (i t : Int) (v : Value) (es : List Ent) (Ds : List Value) (A : Option Addr) (len ca : Nat) (l : List Ent) (Dl : List Value) (prev term : Int) (w : World) (h : RTO w base q i t v es Ds) (hfo : follows i t es = true)
    (hrl : RE w A l Dl) (hl : l.length = len) (hlc : len ≤ ca) (hA : A = none → len = 0) (h0 : 0 ≤ i) (h1 : i ≤ 10000000000000) (h2 : es.length ≤ 4200000000000) (h3 : len * 48 ≤ 140737488355328) (hbase : base ≤ w.heap.size) (hok : okNew prev term l = true) :
    Calls Tryd.prog 45 #[.pointer (some ⟨q, 0, none⟩), .int .i64 prev, .int .i64 term, .slice A len ca] w (RMergePost w base q i t v Ds (mergeT i t es prev term l)) := by
  obtain ⟨L, c, hv, hre, hlc2, -⟩ := h.2.2.re
  subst hv
  obtain ⟨hp0, ht0, hpM, hfl⟩ := okNew_follows hok
  have HRW := Lib.hid (row_any A len ca l Dl prev term w hrl hl (by omega) (by omega) (by omega))
  rw [hfl] at HRW
  obtain ⟨N, hn⟩ : ∃ N, Hid (es.length = N) := ⟨_, Lib.hid rfl⟩
  have HLA := Lib.hid (rlast_any q i t L c es Ds w h.tr hre hfo h0 h1 (by omega))
  have HTA := Lib.hid fun (x : Int) (w1 : World) (b : Below w.heap.size w w1) => rterm_any q i t L c es Ds x w1 (h.below b).tr (hre.below b) h0 h1 (by omega)
  rw [hn.out] at HLA h h2 hlc2 ⊢
  obtain ⟨T, hT⟩ : ∃ T, Hid (T = endT t es) := ⟨_, Lib.hid rfl⟩
  rw [← hT.out] at HLA
  have HH := Lib.hid h
  have HRE := Lib.hid hre
  have HRL := Lib.hid hrl
  have HL := Lib.hid hl
  have HFO := Lib.hid hfo
  have HFL := Lib.hid hfl
  have HOK := Lib.hid hok
  have HA0 := Lib.hid hA
  have ha1 : ¬ prev < 0 := by omega
  have ha2 : ¬ term < 0 := by omega
  have ha3 : ¬ (1099511627776 : Int) < prev := by omega
  clear h hre hrl hl hfo hfl hok hA
  by_cases c1 : i + (N : Int) < prev
  · have HMM := Lib.hid (mergeT_far (t := t) (es := es) HOK.out (show i + es.length < prev by rw [hn.out]; exact c1))
    obtain ⟨e1, e2⟩ := termT_out i t es prev (.inr (by rw [hn.out]; exact c1))
    have HT1 := Lib.hid (HTA.out prev)
    rw [e1, e2] at HT1
    clear e1 e2
    go_enter Tryd.func45, Tryd.ntmps45
    go_wp2_with fail
    refine HRW.out.mono ?_
    rintro e w0 ⟨rfl, hw0⟩
    rw [hw0]
    clear hw0 w0
    go_wp2_with fail
    refine HLA.out.mono ?_
    rintro e w1 ⟨rfl, b1⟩
    have B1 := Lib.hid b1
    clear b1
    go_wp2_with fail
    refine (HT1.out w1 B1.out).mono ?_
    rintro e w2 ⟨rfl, m1, rfl⟩
    go_wp2_with fail
    go_ret3
    rw [HMM.out]
    exact ⟨_, _, Ds, [], rfl, below_grown (below_drawn' B1.out) _, HH.out.below (below_drawn' B1.out), OE.nil _ _, fun k h => .inl h⟩
  · have HPN := Lib.hid (show prev ≤ i + es.length by rw [hn.out]; omega)
    by_cases c2 : i ≤ prev
    · have e2 : inT i es prev = true := decide_eq_true (by rw [hn.out]; omega)
      have HT1 := Lib.hid (HTA.out prev)
      rw [e2] at HT1
      obtain ⟨old, hold⟩ : ∃ old, Hid (old = termT i t es prev) := ⟨_, Lib.hid rfl⟩
      rw [← hold.out] at HT1
      clear e2
      have kneg : IntKind.i64.wrap (i - prev) = i - prev := IntWalk.i64_in _ (by omega)
      obtain ⟨kz, hkz⟩ : ∃ kz : Int, Hid (kz = i - prev - 1) := ⟨_, Lib.hid rfl⟩
      have kneg2 : IntKind.i64.wrap (i - prev - 1) = kz := by rw [hkz.out]; exact IntWalk.i64_in _ (by omega)
      have d1 : decide (0 ≤ kz) = false := decide_eq_false (by have := hkz.out; omega)
      have hd1 : ¬ (0 ≤ kz) := by have := hkz.out; omega
      by_cases c3 : old = term
      · have hb3 : (old != term) = false := by simp [c3]
        have HM := Lib.hid (show prev + l.length < i ∨ termT i t es (max prev i) = termN term l (i - prev).toNat from .inr (by
          rw [show max prev i = prev by omega, show (i - prev).toNat = 0 by omega, ← hold.out, c3]
          rfl))
        clear c3
        go_enter Tryd.func45, Tryd.ntmps45
        go_wp2_with fail
        refine HRW.out.mono ?_
        rintro e w0 ⟨rfl, hw0⟩
        rw [hw0]
        clear hw0 w0
        go_wp2_with fail
        refine HLA.out.mono ?_
        rintro e w1 ⟨rfl, b1⟩
        have B1 := Lib.hid b1
        clear b1
        go_wp2_with fail
        refine (HT1.out w1 B1.out).mono ?_
        rintro e w2 ⟨rfl, m1, rfl⟩
        have c0 : ∀ m, (w1.drewN m).cell? ⟨q, 0, none⟩ = some (.int .i64 i) := fun m => (HH.out.below B1.out).tr.1
        have c0' := c0 m1
        have c1' : ∀ m, (w1.drewN m).cell? ⟨q, 1, none⟩ = some (.int .i64 t) := fun m => (HH.out.below B1.out).tr.2.1
        go_wp2_with fail
        go_big_quiet (fail)
        go_wp2_with fail
        go_loopg [14, 15, 17] len (fun gk ov iv ki wr => ∃ (j : Nat), gk = len - j ∧ j ≤ len ∧ ki = .int .i64 j ∧ Hid ((∀ j' (h : j' < l.length), j' < j → ¬ newAt i t es l[j']) ∧ Below w.heap.size w wr))
        case atStart => exact ⟨0, by omega, by omega, rfl, Lib.hid ⟨fun j' h hj => by omega, below_drawn' (below_drawn' B1.out)⟩⟩
        case round =>
          obtain ⟨j, hgk, hj, rfl, HO⟩ := hrel
          clear c0 c0' c1'
          (try clear gk1)
          by_cases hjl : j < len
          · have hjl1 : (j : Int) < (len : Int) := by omega
            have hje : j < l.length := by rw [HL.out]; exact hjl
            obtain ⟨g', o', hA', hg', -⟩ := HRL.out.addr (by omega)
            cases hA'
            obtain ⟨r0, r1, -, -, -⟩ := (HRL.out.below HO.out.2).at j hje
            obtain ⟨E, hE⟩ : ∃ E, E = l[j] := ⟨_, rfl⟩
            rw [← hE] at r0 r1
            have hEi := follows_get HFL.out j hje
            rw [← hE] at hEi
            have HE := Lib.hid hE
            clear hE
            obtain ⟨ei, et, ek, ed⟩ := E
            simp only at r0 r1 hEi
            have hei := Lib.hid hEi
            have hei1 : ei ≤ 10000000000000 := by omega
            have hei2 : 0 ≤ ei := by omega
            have HT2 := Lib.hid (HTA.out ei wr HO.out.2)
            obtain ⟨old2, ho2⟩ : ∃ x, Hid (x = termT i t es ei) := ⟨_, Lib.hid rfl⟩
            obtain ⟨is2, hi2⟩ : ∃ x, Hid (x = inT i es ei) := ⟨_, Lib.hid rfl⟩
            rw [← ho2.out, ← hi2.out] at HT2
            clear hEi
            go_wp2_with fail
            refine HT2.out.mono ?_
            rintro e w4 ⟨rfl, m2, rfl⟩
            have B5 := Lib.hid (show Below w.heap.size w (wr.drewN m2) from below_drawn' HO.out.2)
            obtain ⟨W5, hW5⟩ : ∃ W5, W5 = wr.drewN m2 := ⟨_, rfl⟩
            have q0 : ∀ m, (W5.drewN m).cell? ⟨q, 0, none⟩ = some (.int .i64 i) := fun m => by rw [hW5]; exact (HH.out.below HO.out.2).tr.1
            have q1 : ∀ m, (W5.drewN m).cell? ⟨g', o' + j * 4, none⟩ = some (.int .i64 ei) := fun m => by rw [hW5]; exact r0
            have q2 : ∀ m, (W5.drewN m).cell? ⟨g', o' + j * 4 + 1, none⟩ = some (.int .i64 et) := fun m => by rw [hW5]; exact r1
            rw [← hW5] at B5 ⊢
            clear hW5 r0 r1 HT2
            go_wp2_with fail
            go_cut [127] from 90 to 161 (fun cc wx => cc = .bool (decide (¬ newAt i t es ⟨ei, et, ek, ed⟩)) ∧ ∃ m, wx = W5.drewN m)
            case first =>
              by_cases hx : ei ≤ i
              · have d5 : decide (ei ≤ i) = true := decide_eq_true hx
                go_wp2_with fail
                go_big_quiet (fail)
                go_wp2_with fail
                go_meet
                exact ⟨congrArg Value.bool (decide_eq_true (p := ¬ newAt i t es ⟨ei, et, ek, ed⟩) (fun h => by have := h.1; simp only at this; omega)).symm, _, rfl⟩
              · have d5 : decide (ei ≤ i) = false := decide_eq_false hx
                cases is2 with
                | false =>
                  go_wp2_with fail
                  go_big_quiet (fail)
                  go_wp2_with fail
                  go_meet
                  exact ⟨congrArg Value.bool (decide_eq_false (p := ¬ newAt i t es ⟨ei, et, ek, ed⟩) (fun h => h ⟨show i < ei by omega, by unfold isNew; simp only; rw [← hi2.out]; rfl⟩)).symm, _, rfl⟩
                | true =>
                  by_cases hot : old2 = et
                  · have d6 : (old2 == et) = true := by simp [hot]
                    have HOT := Lib.hid hot
                    clear hot
                    go_wp2_with fail
                    go_big_quiet (fail)
                    go_wp2_with fail
                    go_meet
                    exact ⟨congrArg Value.bool (decide_eq_true (p := ¬ newAt i t es ⟨ei, et, ek, ed⟩) (fun h => by have h2 := h.2; unfold isNew at h2; simp only at h2; rw [← hi2.out, ← ho2.out, HOT.out] at h2; simp at h2)).symm, _, rfl⟩
                  · have d6 : (old2 == et) = false := by simp [hot]
                    have HOT := Lib.hid hot
                    clear hot
                    go_wp2_with fail
                    go_big_quiet (fail)
                    go_wp2_with fail
                    go_meet
                    exact ⟨congrArg Value.bool (decide_eq_false (p := ¬ newAt i t es ⟨ei, et, ek, ed⟩) (fun h => h ⟨show i < ei by omega, by unfold isNew; simp only; rw [← hi2.out, ← ho2.out]; simp [HOT.out]⟩)).symm, _, rfl⟩
            case rest =>
              obtain ⟨rfl, m5, rfl⟩ := hcut
              by_cases hnew : newAt i t es ⟨ei, et, ek, ed⟩
              · have hb : decide (¬ newAt i t es ⟨ei, et, ek, ed⟩) = false := decide_eq_false (fun h => h hnew)
                obtain ⟨a, ha, haN, hmm⟩ := merge_found HOK.out HPN.out HM.out j hje (by rw [← HE.out]; exact hnew) HO.out.1
                rw [HL.out] at hmm
                have HMM := Lib.hid hmm
                rw [hn.out] at haN
                have s1 : IntKind.i64.wrap (ei - i) = (a : Int) + 1 := (IntWalk.i64_in (ei - i) (by omega)).trans (by have := hei.out; omega)
                have s2 : IntKind.i64.wrap ((a : Int) + 1 - 1) = (a : Int) := (IntWalk.i64_in ((a : Int) + 1 - 1) (by omega)).trans (by omega)
                have s3 : IntKind.i64.wrap (a : Int) = (a : Int) := IntWalk.i64_in (a : Int) (by omega)
                have HC1 := Lib.hid fun (w' : World) (b : Below w.heap.size w w') => rcopied_any L a c (es.take a) (Ds.take a) w' ((HRE.out.below b).take a) (by rw [List.length_take, hn.out]; omega) (by omega)
                have HC2 := Lib.hid fun (w' : World) (b : Below w.heap.size w w') => rcopied_any (some ⟨g', o' + j * 4, none⟩) (len - j) (ca - j) (l.drop j) (Dl.drop j) w' ((HRL.out.below b).drop j) (by rw [List.length_drop, HL.out]) (by omega)
                have HC3 := Lib.hid fun (w' : World) (b : w.grownBy w' (some q)) => rcopied_any (some ⟨g', o' + j * 4, none⟩) (len - j) (ca - j) (l.drop j) (Dl.drop j) w' ((HRL.out.growR HH.out b).drop j) (by rw [List.length_drop, HL.out]) (by omega)
                have hlt := Lib.hid (show (es.take a).length = a by rw [List.length_take, hn.out]; omega)
                have hld := Lib.hid (show (l.drop j).length = len - j by rw [List.length_drop, HL.out])
                have hck : ¬ ca = j := by omega
                have hj0 : (0 : Int) ≤ (j : Int) := by omega
                have hj2 : (j : Int) ≤ (len : Int) := by omega
                have hn0 : (0 : Int) ≤ (a : Int) := by omega
                have hn2 : (a : Int) ≤ (c : Int) := by omega
                have hS0 : ∀ m, (W5.drewN m).cell? ⟨q, 2, none⟩ = some (.slice L N c) := fun m => (HH.out.below B5.out).tr.2.2
                rw [hb]
                have HHA := Lib.hid ha
                clear hmm hnew hb ha
                go_wp2_with fail
                go_big_quiet (fail)
                go_wp2_with fail
                refine wp_region_Z (fun w' => w'.cell? ⟨q, 2, none⟩ = some (.slice L N c)) 15 (by kernel_rfl) (hS0 0) (fun hHeld => ?_)
                refine wpAnyZ_take (i := 0) (v := ?_) rfl (by kernel_rfl) (by kernel_rfl) (by kernel_rfl) (by kernel_rfl) (by decide) (fun _ _ _ h => h) (by rfl) ?_ (by assumption) ?_
                rotate_left
                · (intro w hSw; (try dsimp only at hSw); go_simp) <;> with_reducible rfl
                try simp only [Act.put, List.getElem_toArray, List.getElem_cons_zero, List.getElem_cons_succ, List.setIfInBounds_toArray, List.set_cons_zero, List.set_cons_succ]
                refine wpAnyZ_take (i := 1) (v := ?_) rfl (by kernel_rfl) (by kernel_rfl) (by kernel_rfl) (by kernel_rfl) (by decide) (fun _ _ _ h => h) (by rfl) ?_ (by assumption) ?_
                rotate_left
                · (intro w hSw; (try dsimp only at hSw); go_simp) <;> with_reducible rfl
                try simp only [Act.put, List.getElem_toArray, List.getElem_cons_zero, List.getElem_cons_succ, List.setIfInBounds_toArray, List.set_cons_zero, List.set_cons_succ]
                refine wpAnyZ_take (i := 2) (v := ?_) rfl (by kernel_rfl) (by kernel_rfl) (by kernel_rfl) (by kernel_rfl) (by decide) (fun _ _ _ h => h) (by rfl) ?_ (by assumption) ?_
                rotate_left
                · (intro w hSw; (try dsimp only at hSw); go_simp) <;> with_reducible rfl
                try simp only [Act.put, List.getElem_toArray, List.getElem_cons_zero, List.getElem_cons_succ, List.setIfInBounds_toArray, List.set_cons_zero, List.set_cons_succ]
                refine wpAnyZ_take (i := 3) (v := ?_) rfl (by kernel_rfl) (by kernel_rfl) (by kernel_rfl) (by kernel_rfl) (by decide) (fun _ _ _ h => h) (by rfl) ?_ (by assumption) ?_
                rotate_left
                · (intro w hSw; (try dsimp only at hSw); go_simp) <;> with_reducible rfl
                try simp only [Act.put, List.getElem_toArray, List.getElem_cons_zero, List.getElem_cons_succ, List.setIfInBounds_toArray, List.set_cons_zero, List.set_cons_succ]
                refine wpAnyZ_take (i := 4) (v := ?_) rfl (by kernel_rfl) (by kernel_rfl) (by kernel_rfl) (by kernel_rfl) (by decide) (fun _ _ _ h => h) (by rfl) ?_ (by assumption) ?_
                rotate_left
                · (intro w hSw; (try dsimp only at hSw); go_simp) <;> with_reducible rfl
                try simp only [Act.put, List.getElem_toArray, List.getElem_cons_zero, List.getElem_cons_succ, List.setIfInBounds_toArray, List.set_cons_zero, List.set_cons_succ]
                refine wpAnyZ_take (i := 5) (v := ?_) rfl (by kernel_rfl) (by kernel_rfl) (by kernel_rfl) (by kernel_rfl) (by decide) (fun _ _ _ h => h) (by rfl) ?_ (by assumption) ?_
                rotate_left
                · (intro w hSw; (try dsimp only at hSw); go_simp) <;> with_reducible rfl
                try simp only [Act.put, List.getElem_toArray, List.getElem_cons_zero, List.getElem_cons_succ, List.setIfInBounds_toArray, List.set_cons_zero, List.set_cons_succ]
                refine wpAnyZ_take (i := 6) (v := ?_) rfl (by kernel_rfl) (by kernel_rfl) (by kernel_rfl) (by kernel_rfl) (by decide) (fun _ _ _ h => h) (by rfl) ?_ (by assumption) ?_
                rotate_left
                · (intro w hSw; (try dsimp only at hSw); go_simp) <;> with_reducible rfl
                try simp only [Act.put, List.getElem_toArray, List.getElem_cons_zero, List.getElem_cons_succ, List.setIfInBounds_toArray, List.set_cons_zero, List.set_cons_succ]
                refine wpAnyZ_take (i := 8) (v := ?_) rfl (by kernel_rfl) (by kernel_rfl) (by kernel_rfl) (by kernel_rfl) (by decide) (fun _ _ _ h => h) (by rfl) ?_ (by assumption) ?_
                rotate_left
                · (intro w hSw; (try dsimp only at hSw); go_simp) <;> with_reducible rfl
                try simp only [Act.put, List.getElem_toArray, List.getElem_cons_zero, List.getElem_cons_succ, List.setIfInBounds_toArray, List.set_cons_zero, List.set_cons_succ]
                refine wpAnyZ_take (i := 9) (v := ?_) rfl (by kernel_rfl) (by kernel_rfl) (by kernel_rfl) (by kernel_rfl) (by decide) (fun _ _ _ h => h) (by rfl) ?_ (by assumption) ?_
                rotate_left
                · (intro w hSw; (try dsimp only at hSw); go_simp) <;> with_reducible rfl
                try simp only [Act.put, List.getElem_toArray, List.getElem_cons_zero, List.getElem_cons_succ, List.setIfInBounds_toArray, List.set_cons_zero, List.set_cons_succ]
                refine wpAnyZ_take (i := 10) (v := ?_) rfl (by kernel_rfl) (by kernel_rfl) (by kernel_rfl) (by kernel_rfl) (by decide) (fun _ _ _ h => h) (by rfl) ?_ (by assumption) ?_
                rotate_left
                · (intro w hSw; (try dsimp only at hSw); go_simp) <;> with_reducible rfl
                try simp only [Act.put, List.getElem_toArray, List.getElem_cons_zero, List.getElem_cons_succ, List.setIfInBounds_toArray, List.set_cons_zero, List.set_cons_succ]
                refine wpAnyZ_step (i := 7) rfl (by kernel_rfl) (fun K hK => ?_)
                go_simp
                refine (HC1.out _ (below_drawn' B5.out)).mono ?_
                rintro e w6 ⟨v6, D6, rfl, oe6, b6⟩
                obtain ⟨A6, c6, rfl, -⟩ := oe6.re
                rw [hlt.out]
                have B6 := Lib.hid (below_then (below_drawn' B5.out) (below_drawn' B5.out).size b6)
                have hS6 : w6.cell? ⟨q, 2, none⟩ = some (.slice L N c) := (HH.out.below B6.out).tr.2.2
                refine hK.out _ _ (fun _ => hS6) ?_
                clear hK K
                try simp only [Act.put, List.getElem_toArray, List.getElem_cons_zero, List.getElem_cons_succ, List.setIfInBounds_toArray, List.set_cons_zero, List.set_cons_succ]
                refine wpAnyZ_step (i := 11) rfl (by kernel_rfl) (fun K hK => ?_)
                go_simp
                refine (HC2.out _ B6.out).mono ?_
                rintro e w7 ⟨v7, D7, rfl, oe7, b7⟩
                have hdp : 0 < (l.drop j).length := by rw [hld.out]; omega
                obtain ⟨g7, c7, hv7, re7, -⟩ := oe7.head hdp
                have B7 := Lib.hid (below_then B6.out B6.out.size b7)
                have hS7 : w7.cell? ⟨q, 2, none⟩ = some (.slice L N c) := (HH.out.below B7.out).tr.2.2
                have oe67 := (oe6.lower (b' := w.heap.size) B5.out.size).below b7
                obtain ⟨v8, w8, run8, own8, g8, -⟩ := run_append_ent (w := w7) w.heap.size (.slice A6 (es.take a).length c6) a (es.take a) D6 oe6.1 hlt.out (by have := oe67.2.1; rwa [hlt.out] at this ⊢) ⟨g7, 0, none⟩ (len - j) c7 (l.drop j) D7 oe7.1 hld.out (fun z u hz => by
                    obtain ⟨a', e', hc⟩ := re7.2.1 z u hz
                    cases e'
                    exact hc) (ecells_one oe7.1 (fun D hD => by
                    obtain ⟨z, hz, rfl⟩ := List.getElem_of_mem hD
                    obtain ⟨_, _, e9, _⟩ := (oe7.2.2 z (by rw [← oe7.1]; exact hz) hz).rd
                    rw [e9]; rfl)) (by have := HHA.out; omega) (fun _ => by omega) (Nat.le_trans B6.out.size b7.size)
                rw [hlt.out] at run8
                rw [hld.out] at hv7
                subst hv7
                have oe8 := oe67.append (fun z h1 h2 => (show OD w7 w.heap.size D7[z] (l.drop j)[z].d from ⟨own_lower (oe7.2.2 z h1 h2).1 B6.out.size, (oe7.2.2 z h1 h2).2⟩)) oe7.1 own8 (by rw [List.length_append, hlt.out, hld.out]) g8
                have B8 := Lib.hid (B7.out.grown g8 B7.out.size fun z hz => (oe67.2.1.lt z hz).1)
                have hlen8 := Lib.hid (show (es.take a ++ l.drop j).length = a + (len - j) by rw [List.length_append, hlt.out, hld.out])
                obtain ⟨A8, c8, hv8, -⟩ := oe8.re
                rw [hlen8.out] at hv8
                subst hv8
                have OE8 := Lib.hid oe8
                refine hK.out _ _ (fun _ => hS7) ?_
                clear hK K
                try simp only [Act.put, List.getElem_toArray, List.getElem_cons_zero, List.getElem_cons_succ, List.setIfInBounds_toArray, List.set_cons_zero, List.set_cons_succ]
                refine wpAnyZ_step (i := 12) rfl (by kernel_rfl) (fun K hK => ?_)
                refine step_append_run rfl (.tmp 146) (.tmp 150) 22 rfl rfl _ _ rfl rfl _ _ run8 ?_
                have hq8 := (B8.out.block q HH.out.lt).trans HH.out.2.1
                have hc8 : w8.cell? ⟨q, 2, none⟩ = some (.slice L N c) := cellU hq8 2
                refine hK.out _ _ (fun _ => hc8) ?_
                clear hK K
                try simp only [Act.put, List.getElem_toArray, List.getElem_cons_zero, List.getElem_cons_succ, List.setIfInBounds_toArray, List.set_cons_zero, List.set_cons_succ]
                refine wpAnyZ_take (i := 13) (v := ?_) rfl (by kernel_rfl) (by kernel_rfl) (by kernel_rfl) (by kernel_rfl) (by decide) (fun _ _ _ h => h) (by rfl) ?_ (by assumption) ?_
                rotate_left
                · (intro w hSw; (try dsimp only at hSw); go_simp) <;> with_reducible rfl
                try simp only [Act.put, List.getElem_toArray, List.getElem_cons_zero, List.getElem_cons_succ, List.setIfInBounds_toArray, List.set_cons_zero, List.set_cons_succ]
                refine wpAnyZ_take (i := 14) (v := ?_) rfl (by kernel_rfl) (by kernel_rfl) (by kernel_rfl) (by kernel_rfl) (by decide) (fun _ _ _ h => h) (by rfl) ?_ (by assumption) ?_
                rotate_left
                · (intro w hSw; (try dsimp only at hSw); go_simp) <;> with_reducible rfl
                try simp only [Act.put, List.getElem_toArray, List.getElem_cons_zero, List.getElem_cons_succ, List.setIfInBounds_toArray, List.set_cons_zero, List.set_cons_succ]
                have hf8 : w8.frozen? ⟨q, 2, none⟩ = false := by simp [World.frozen?, hq8]
                refine wpAnyZ_step (i := 15) rfl (by kernel_rfl) (fun K hK => ?_)
                go_simp
                refine hK.out _ _ (fun h => absurd rfl h) ?_
                clear hK K
                try simp only [Act.put, List.getElem_toArray, List.getElem_cons_zero, List.getElem_cons_succ, List.setIfInBounds_toArray, List.set_cons_zero, List.set_cons_succ]
                refine wpAnyZ_done (by kernel_rfl) ?_
                refine NoPanic.normal ?_
                obtain ⟨w9, hw9⟩ : ∃ w9, w9 = w8.setCell ⟨q, 2, none⟩ (.slice A8 (a + (len - j)) c8) := ⟨_, rfl⟩
                rw [← hw9]
                have hq9 : w9.heap[q]? = some (.cells #[.int .i64 i, .int .i64 t, .slice A8 (a + (len - j)) c8] 85 (0, 0)) := by rw [hw9]; exact heap_setCell_same _ _ _ _ _ _ hq8
                have ho9 : ∀ z, z ≠ q → w9.heap[z]? = w8.heap[z]? := fun z hz => by rw [hw9]; exact heap_setCell_other _ _ _ _ hz
                have hqw := HH.out.lt
                have oe9 : OE w9 w.heap.size (.slice A8 (a + (len - j)) c8) (es.take a ++ l.drop j) (D6 ++ D7) := OE8.out.step (fun z hz => ho9 z (by have := (OE8.out.2.1.lt z hz).1; omega)) (fun D hD z hz => ho9 z (by have := (OE8.out.dlt D hD z hz).1; omega))
                have g9 : w.grownBy w9 (some q) := ⟨by rw [hw9]; exact B8.out.os, by rw [hw9]; exact B8.out.tape, by rw [hw9]; exact B8.out.output, by rw [hw9, World.size_setCell]; exact B8.out.size, fun z hz hzq => (ho9 z (fun e => hzq (by rw [e]))).trans (B8.out.block z hz)⟩
                have T9 := Lib.hid (show RTO w9 base q i t (.slice A8 (a + (len - j)) c8) (es.take a ++ l.drop j) (D6 ++ D7) from ⟨HH.out.1, hq9, oe9.lower hbase⟩)
                have G9 := Lib.hid g9
                have F9 := Lib.hid (show ∀ k, OwnT (.slice A8 (a + (len - j)) c8) (D6 ++ D7) k → w.heap.size ≤ k from fun k h => h.elim (fun h => (OE8.out.2.1.lt k h).1) (fun ⟨D, hD, h⟩ => (OE8.out.dlt D hD k h).1))
                clear hw9 hq9 ho9 oe9 g9 hf8 hc8 hq8 run8 own8 g8 oe8 oe67 oe6 oe7 b6 b7 re7 hS6 hS7 hHeld
                go_wp2_with fail
                refine (HC3.out _ G9.out).mono ?_
                rintro e w10 ⟨v10, D10, rfl, oe10, b10⟩
                go_wp2_with fail
                go_ret3
                rw [HMM.out]
                exact ⟨_, _, _, D10, rfl, ⟨b10.os.trans G9.out.os, b10.tape.trans G9.out.tape, b10.output.trans G9.out.output, Nat.le_trans G9.out.size b10.size, fun z hz hzq => (b10.block z (Nat.lt_of_lt_of_le hz G9.out.size)).trans (G9.out.block z hz hzq)⟩, T9.out.below b10, oe10.lower G9.out.size, fun k h => .inr (F9.out k h)⟩
              · have hb : decide (¬ newAt i t es ⟨ei, et, ek, ed⟩) = true := decide_eq_true hnew
                have HNW := Lib.hid hnew
                rw [hb]
                clear hnew hb
                go_wp2_with fail
                go_roundg (len - (j + 1))
                case measure => omega
                case rel =>
                  refine ⟨j + 1, rfl, by omega, by go_num, Lib.hid ⟨fun j' h hj' => ?_, below_drawn' B5.out⟩⟩
                  by_cases e : j' = j
                  · subst e; rw [← HE.out]; exact HNW.out
                  · exact HO.out.1 j' h (by omega)
          · obtain rfl : j = len := by omega
            have hjl1 : ¬ (j : Int) < (j : Int) := by omega
            have HMM := Lib.hid (merge_none HOK.out HPN.out HM.out (fun j' h => HO.out.1 j' h (by rw [← HL.out]; exact h)))
            rw [HL.out] at HMM
            go_wp2_with fail
            go_ret3
            rw [HMM.out]
            exact ⟨_, _, Ds, [], rfl, below_grown HO.out.2 _, HH.out.below HO.out.2, OE.nil _ _, fun k h => .inl h⟩
      · have hb3 : (old != term) = true := by simp [c3]
        have HMM := Lib.hid (mergeT_differs (t := t) (es := es) HOK.out HPN.out (by omega) (P := max prev i) rfl (T := termN term l (i - prev).toNat) rfl (l' := l.drop (i - prev).toNat) rfl (by
          rw [show max prev i = prev by omega, show (i - prev).toNat = 0 by omega, ← hold.out]
          exact c3))
        clear c3
        go_enter Tryd.func45, Tryd.ntmps45
        go_wp2_with fail
        refine HRW.out.mono ?_
        rintro e w0 ⟨rfl, hw0⟩
        rw [hw0]
        clear hw0 w0
        go_wp2_with fail
        refine HLA.out.mono ?_
        rintro e w1 ⟨rfl, b1⟩
        have B1 := Lib.hid b1
        clear b1
        go_wp2_with fail
        refine (HT1.out w1 B1.out).mono ?_
        rintro e w2 ⟨rfl, m1, rfl⟩
        go_wp2_with fail
        go_ret3
        rw [HMM.out]
        exact ⟨_, _, Ds, [], rfl, below_grown (below_drawn' B1.out) _, HH.out.below (below_drawn' B1.out), OE.nil _ _, fun k h => .inl h⟩
    · obtain ⟨e1, e2⟩ := termT_out i t es prev (.inl (by omega))
      have HT1 := Lib.hid (HTA.out prev)
      rw [e1, e2] at HT1
      clear e1 e2
      obtain ⟨kk, hkk⟩ : ∃ kk : Nat, i = prev + 1 + kk := ⟨(i - prev - 1).toNat, by omega⟩
      have kw1 : IntKind.i64.wrap (i - prev) = ((kk + 1 : Nat) : Int) := (IntWalk.i64_in _ (by omega)).trans (by omega)
      have kw2 : IntKind.i64.wrap (((kk + 1 : Nat) : Int) - 1) = (kk : Int) := (IntWalk.i64_in _ (by omega)).trans (by omega)
      have kw3 : IntKind.i64.wrap (kk : Int) = (kk : Int) := IntWalk.i64_in _ (by omega)
      have d1 : decide ((0 : Int) ≤ (kk : Int)) = true := decide_eq_true (by omega)
      have HKK := Lib.hid hkk
      have hpi : prev < i := by omega
      by_cases c3 : kk < len
      · have d2 : decide ((kk : Int) < (len : Int)) = true := decide_eq_true (by omega)
        have hc3 : (kk : Int) < (len : Int) := by omega
        have hkl : kk < l.length := by rw [HL.out]; exact c3
        obtain ⟨lt, hlt⟩ : ∃ lt, Hid (lt = l[kk].t) := ⟨_, Lib.hid rfl⟩
        obtain ⟨g, o, rfl, hg, -⟩ := HRL.out.addr (by omega)
        have gk : ∀ w', Below w.heap.size w w' → w'.cell? ⟨g, o + kk * 4 + 1, none⟩ = some (.int .i64 lt) := fun w' b => by rw [hlt.out]; exact ((HRL.out.below b).at kk hkl).2.1
        have GK := Lib.hid gk
        have hmt := termT_base i t es
        have htn : termN term l (kk + 1) = lt := by rw [hlt.out]; exact termN_succ term l kk hkl
        have hmx : max prev i = i := by omega
        have hsn : (i - prev).toNat = kk + 1 := by omega
        clear gk hkk
        by_cases c4 : lt = t
        · have hb4 : (lt != t) = false := by simp [c4]
          have HM := Lib.hid (show prev + l.length < i ∨ termT i t es (max prev i) = termN term l (i - prev).toNat from .inr (by rw [hmx, hsn, hmt.1, htn, c4]))
          clear hmt htn hmx hsn c4
          go_enter Tryd.func45, Tryd.ntmps45
          go_wp2_with fail
          refine HRW.out.mono ?_
          rintro e w0 ⟨rfl, hw0⟩
          rw [hw0]
          clear hw0 w0
          go_wp2_with fail
          refine HLA.out.mono ?_
          rintro e w1 ⟨rfl, b1⟩
          have B1 := Lib.hid b1
          clear b1
          go_wp2_with fail
          refine (HT1.out w1 B1.out).mono ?_
          rintro e w2 ⟨rfl, m1, rfl⟩
          have c0 : ∀ m, (w1.drewN m).cell? ⟨q, 0, none⟩ = some (.int .i64 i) := fun m => (HH.out.below B1.out).tr.1
          have c0' := c0 m1
          have c1' : ∀ m, (w1.drewN m).cell? ⟨q, 1, none⟩ = some (.int .i64 t) := fun m => (HH.out.below B1.out).tr.2.1
          have gk1 : ∀ m, (w1.drewN m).cell? ⟨g, o + kk * 4 + 1, none⟩ = some (.int .i64 lt) := fun m => GK.out w1 B1.out
          go_wp2_with fail
          go_big_quiet (fail)
          go_wp2_with fail
          go_loopg [14, 15, 17] len (fun gk ov iv ki wr => ∃ (j : Nat), gk = len - j ∧ j ≤ len ∧ ki = .int .i64 j ∧ Hid ((∀ j' (h : j' < l.length), j' < j → ¬ newAt i t es l[j']) ∧ Below w.heap.size w wr))
          case atStart => exact ⟨0, by omega, by omega, rfl, Lib.hid ⟨fun j' h hj => by omega, below_drawn' (below_drawn' B1.out)⟩⟩
          case round =>
            obtain ⟨j, hgk, hj, rfl, HO⟩ := hrel
            clear c0 c0' c1'
            (try clear gk1)
            by_cases hjl : j < len
            · have hjl1 : (j : Int) < (len : Int) := by omega
              have hje : j < l.length := by rw [HL.out]; exact hjl
              obtain ⟨g', o', hA', hg', -⟩ := HRL.out.addr (by omega)
              cases hA'
              obtain ⟨r0, r1, -, -, -⟩ := (HRL.out.below HO.out.2).at j hje
              obtain ⟨E, hE⟩ : ∃ E, E = l[j] := ⟨_, rfl⟩
              rw [← hE] at r0 r1
              have hEi := follows_get HFL.out j hje
              rw [← hE] at hEi
              have HE := Lib.hid hE
              clear hE
              obtain ⟨ei, et, ek, ed⟩ := E
              simp only at r0 r1 hEi
              have hei := Lib.hid hEi
              have hei1 : ei ≤ 10000000000000 := by omega
              have hei2 : 0 ≤ ei := by omega
              have HT2 := Lib.hid (HTA.out ei wr HO.out.2)
              obtain ⟨old2, ho2⟩ : ∃ x, Hid (x = termT i t es ei) := ⟨_, Lib.hid rfl⟩
              obtain ⟨is2, hi2⟩ : ∃ x, Hid (x = inT i es ei) := ⟨_, Lib.hid rfl⟩
              rw [← ho2.out, ← hi2.out] at HT2
              clear hEi
              go_wp2_with fail
              refine HT2.out.mono ?_
              rintro e w4 ⟨rfl, m2, rfl⟩
              have B5 := Lib.hid (show Below w.heap.size w (wr.drewN m2) from below_drawn' HO.out.2)
              obtain ⟨W5, hW5⟩ : ∃ W5, W5 = wr.drewN m2 := ⟨_, rfl⟩
              have q0 : ∀ m, (W5.drewN m).cell? ⟨q, 0, none⟩ = some (.int .i64 i) := fun m => by rw [hW5]; exact (HH.out.below HO.out.2).tr.1
              have q1 : ∀ m, (W5.drewN m).cell? ⟨g, o + j * 4, none⟩ = some (.int .i64 ei) := fun m => by rw [hW5]; exact r0
              have q2 : ∀ m, (W5.drewN m).cell? ⟨g, o + j * 4 + 1, none⟩ = some (.int .i64 et) := fun m => by rw [hW5]; exact r1
              rw [← hW5] at B5 ⊢
              clear hW5 r0 r1 HT2
              go_wp2_with fail
              go_cut [127] from 90 to 161 (fun cc wx => cc = .bool (decide (¬ newAt i t es ⟨ei, et, ek, ed⟩)) ∧ ∃ m, wx = W5.drewN m)
              case first =>
                by_cases hx : ei ≤ i
                · have d5 : decide (ei ≤ i) = true := decide_eq_true hx
                  go_wp2_with fail
                  go_big_quiet (fail)
                  go_wp2_with fail
                  go_meet
                  exact ⟨congrArg Value.bool (decide_eq_true (p := ¬ newAt i t es ⟨ei, et, ek, ed⟩) (fun h => by have := h.1; simp only at this; omega)).symm, _, rfl⟩
                · have d5 : decide (ei ≤ i) = false := decide_eq_false hx
                  cases is2 with
                  | false =>
                    go_wp2_with fail
                    go_big_quiet (fail)
                    go_wp2_with fail
                    go_meet
                    exact ⟨congrArg Value.bool (decide_eq_false (p := ¬ newAt i t es ⟨ei, et, ek, ed⟩) (fun h => h ⟨show i < ei by omega, by unfold isNew; simp only; rw [← hi2.out]; rfl⟩)).symm, _, rfl⟩
                  | true =>
                    by_cases hot : old2 = et
                    · have d6 : (old2 == et) = true := by simp [hot]
                      have HOT := Lib.hid hot
                      clear hot
                      go_wp2_with fail
                      go_big_quiet (fail)
                      go_wp2_with fail
                      go_meet
                      exact ⟨congrArg Value.bool (decide_eq_true (p := ¬ newAt i t es ⟨ei, et, ek, ed⟩) (fun h => by have h2 := h.2; unfold isNew at h2; simp only at h2; rw [← hi2.out, ← ho2.out, HOT.out] at h2; simp at h2)).symm, _, rfl⟩
                    · have d6 : (old2 == et) = false := by simp [hot]
                      have HOT := Lib.hid hot
                      clear hot
                      go_wp2_with fail
                      go_big_quiet (fail)
                      go_wp2_with fail
                      go_meet
                      exact ⟨congrArg Value.bool (decide_eq_false (p := ¬ newAt i t es ⟨ei, et, ek, ed⟩) (fun h => h ⟨show i < ei by omega, by unfold isNew; simp only; rw [← hi2.out, ← ho2.out]; simp [HOT.out]⟩)).symm, _, rfl⟩
              case rest =>
                obtain ⟨rfl, m5, rfl⟩ := hcut
                by_cases hnew : newAt i t es ⟨ei, et, ek, ed⟩
                · have hb : decide (¬ newAt i t es ⟨ei, et, ek, ed⟩) = false := decide_eq_false (fun h => h hnew)
                  obtain ⟨a, ha, haN, hmm⟩ := merge_found HOK.out HPN.out HM.out j hje (by rw [← HE.out]; exact hnew) HO.out.1
                  rw [HL.out] at hmm
                  have HMM := Lib.hid hmm
                  rw [hn.out] at haN
                  have s1 : IntKind.i64.wrap (ei - i) = (a : Int) + 1 := (IntWalk.i64_in (ei - i) (by omega)).trans (by have := hei.out; omega)
                  have s2 : IntKind.i64.wrap ((a : Int) + 1 - 1) = (a : Int) := (IntWalk.i64_in ((a : Int) + 1 - 1) (by omega)).trans (by omega)
                  have s3 : IntKind.i64.wrap (a : Int) = (a : Int) := IntWalk.i64_in (a : Int) (by omega)
                  have HC1 := Lib.hid fun (w' : World) (b : Below w.heap.size w w') => rcopied_any L a c (es.take a) (Ds.take a) w' ((HRE.out.below b).take a) (by rw [List.length_take, hn.out]; omega) (by omega)
                  have HC2 := Lib.hid fun (w' : World) (b : Below w.heap.size w w') => rcopied_any (some ⟨g, o + j * 4, none⟩) (len - j) (ca - j) (l.drop j) (Dl.drop j) w' ((HRL.out.below b).drop j) (by rw [List.length_drop, HL.out]) (by omega)
                  have HC3 := Lib.hid fun (w' : World) (b : w.grownBy w' (some q)) => rcopied_any (some ⟨g, o + j * 4, none⟩) (len - j) (ca - j) (l.drop j) (Dl.drop j) w' ((HRL.out.growR HH.out b).drop j) (by rw [List.length_drop, HL.out]) (by omega)
                  have hlt := Lib.hid (show (es.take a).length = a by rw [List.length_take, hn.out]; omega)
                  have hld := Lib.hid (show (l.drop j).length = len - j by rw [List.length_drop, HL.out])
                  have hck : ¬ ca = j := by omega
                  have hj0 : (0 : Int) ≤ (j : Int) := by omega
                  have hj2 : (j : Int) ≤ (len : Int) := by omega
                  have hn0 : (0 : Int) ≤ (a : Int) := by omega
                  have hn2 : (a : Int) ≤ (c : Int) := by omega
                  have hS0 : ∀ m, (W5.drewN m).cell? ⟨q, 2, none⟩ = some (.slice L N c) := fun m => (HH.out.below B5.out).tr.2.2
                  rw [hb]
                  have HHA := Lib.hid ha
                  clear hmm hnew hb ha
                  go_wp2_with fail
                  go_big_quiet (fail)
                  go_wp2_with fail
                  refine wp_region_Z (fun w' => w'.cell? ⟨q, 2, none⟩ = some (.slice L N c)) 15 (by kernel_rfl) (hS0 0) (fun hHeld => ?_)
                  refine wpAnyZ_take (i := 0) (v := ?_) rfl (by kernel_rfl) (by kernel_rfl) (by kernel_rfl) (by kernel_rfl) (by decide) (fun _ _ _ h => h) (by rfl) ?_ (by assumption) ?_
                  rotate_left
                  · (intro w hSw; (try dsimp only at hSw); go_simp) <;> with_reducible rfl
                  try simp only [Act.put, List.getElem_toArray, List.getElem_cons_zero, List.getElem_cons_succ, List.setIfInBounds_toArray, List.set_cons_zero, List.set_cons_succ]
                  refine wpAnyZ_take (i := 1) (v := ?_) rfl (by kernel_rfl) (by kernel_rfl) (by kernel_rfl) (by kernel_rfl) (by decide) (fun _ _ _ h => h) (by rfl) ?_ (by assumption) ?_
                  rotate_left
                  · (intro w hSw; (try dsimp only at hSw); go_simp) <;> with_reducible rfl
                  try simp only [Act.put, List.getElem_toArray, List.getElem_cons_zero, List.getElem_cons_succ, List.setIfInBounds_toArray, List.set_cons_zero, List.set_cons_succ]
                  refine wpAnyZ_take (i := 2) (v := ?_) rfl (by kernel_rfl) (by kernel_rfl) (by kernel_rfl) (by kernel_rfl) (by decide) (fun _ _ _ h => h) (by rfl) ?_ (by assumption) ?_
                  rotate_left
                  · (intro w hSw; (try dsimp only at hSw); go_simp) <;> with_reducible rfl
                  try simp only [Act.put, List.getElem_toArray, List.getElem_cons_zero, List.getElem_cons_succ, List.setIfInBounds_toArray, List.set_cons_zero, List.set_cons_succ]
                  refine wpAnyZ_take (i := 3) (v := ?_) rfl (by kernel_rfl) (by kernel_rfl) (by kernel_rfl) (by kernel_rfl) (by decide) (fun _ _ _ h => h) (by rfl) ?_ (by assumption) ?_
                  rotate_left
                  · (intro w hSw; (try dsimp only at hSw); go_simp) <;> with_reducible rfl
                  try simp only [Act.put, List.getElem_toArray, List.getElem_cons_zero, List.getElem_cons_succ, List.setIfInBounds_toArray, List.set_cons_zero, List.set_cons_succ]
                  refine wpAnyZ_take (i := 4) (v := ?_) rfl (by kernel_rfl) (by kernel_rfl) (by kernel_rfl) (by kernel_rfl) (by decide) (fun _ _ _ h => h) (by rfl) ?_ (by assumption) ?_
                  rotate_left
                  · (intro w hSw; (try dsimp only at hSw); go_simp) <;> with_reducible rfl
                  try simp only [Act.put, List.getElem_toArray, List.getElem_cons_zero, List.getElem_cons_succ, List.setIfInBounds_toArray, List.set_cons_zero, List.set_cons_succ]
                  refine wpAnyZ_take (i := 5) (v := ?_) rfl (by kernel_rfl) (by kernel_rfl) (by kernel_rfl) (by kernel_rfl) (by decide) (fun _ _ _ h => h) (by rfl) ?_ (by assumption) ?_
                  rotate_left
                  · (intro w hSw; (try dsimp only at hSw); go_simp) <;> with_reducible rfl
                  try simp only [Act.put, List.getElem_toArray, List.getElem_cons_zero, List.getElem_cons_succ, List.setIfInBounds_toArray, List.set_cons_zero, List.set_cons_succ]
                  refine wpAnyZ_take (i := 6) (v := ?_) rfl (by kernel_rfl) (by kernel_rfl) (by kernel_rfl) (by kernel_rfl) (by decide) (fun _ _ _ h => h) (by rfl) ?_ (by assumption) ?_
                  rotate_left
                  · (intro w hSw; (try dsimp only at hSw); go_simp) <;> with_reducible rfl
                  try simp only [Act.put, List.getElem_toArray, List.getElem_cons_zero, List.getElem_cons_succ, List.setIfInBounds_toArray, List.set_cons_zero, List.set_cons_succ]
                  refine wpAnyZ_take (i := 8) (v := ?_) rfl (by kernel_rfl) (by kernel_rfl) (by kernel_rfl) (by kernel_rfl) (by decide) (fun _ _ _ h => h) (by rfl) ?_ (by assumption) ?_
                  rotate_left
                  · (intro w hSw; (try dsimp only at hSw); go_simp) <;> with_reducible rfl
                  try simp only [Act.put, List.getElem_toArray, List.getElem_cons_zero, List.getElem_cons_succ, List.setIfInBounds_toArray, List.set_cons_zero, List.set_cons_succ]
                  refine wpAnyZ_take (i := 9) (v := ?_) rfl (by kernel_rfl) (by kernel_rfl) (by kernel_rfl) (by kernel_rfl) (by decide) (fun _ _ _ h => h) (by rfl) ?_ (by assumption) ?_
                  rotate_left
                  · (intro w hSw; (try dsimp only at hSw); go_simp) <;> with_reducible rfl
                  try simp only [Act.put, List.getElem_toArray, List.getElem_cons_zero, List.getElem_cons_succ, List.setIfInBounds_toArray, List.set_cons_zero, List.set_cons_succ]
                  refine wpAnyZ_take (i := 10) (v := ?_) rfl (by kernel_rfl) (by kernel_rfl) (by kernel_rfl) (by kernel_rfl) (by decide) (fun _ _ _ h => h) (by rfl) ?_ (by assumption) ?_
                  rotate_left
                  · (intro w hSw; (try dsimp only at hSw); go_simp) <;> with_reducible rfl
                  try simp only [Act.put, List.getElem_toArray, List.getElem_cons_zero, List.getElem_cons_succ, List.setIfInBounds_toArray, List.set_cons_zero, List.set_cons_succ]
                  refine wpAnyZ_step (i := 7) rfl (by kernel_rfl) (fun K hK => ?_)
                  go_simp
                  refine (HC1.out _ (below_drawn' B5.out)).mono ?_
                  rintro e w6 ⟨v6, D6, rfl, oe6, b6⟩
                  obtain ⟨A6, c6, rfl, -⟩ := oe6.re
                  rw [hlt.out]
                  have B6 := Lib.hid (below_then (below_drawn' B5.out) (below_drawn' B5.out).size b6)
                  have hS6 : w6.cell? ⟨q, 2, none⟩ = some (.slice L N c) := (HH.out.below B6.out).tr.2.2
                  refine hK.out _ _ (fun _ => hS6) ?_
                  clear hK K
                  try simp only [Act.put, List.getElem_toArray, List.getElem_cons_zero, List.getElem_cons_succ, List.setIfInBounds_toArray, List.set_cons_zero, List.set_cons_succ]
                  refine wpAnyZ_step (i := 11) rfl (by kernel_rfl) (fun K hK => ?_)
                  go_simp
                  refine (HC2.out _ B6.out).mono ?_
                  rintro e w7 ⟨v7, D7, rfl, oe7, b7⟩
                  have hdp : 0 < (l.drop j).length := by rw [hld.out]; omega
                  obtain ⟨g7, c7, hv7, re7, -⟩ := oe7.head hdp
                  have B7 := Lib.hid (below_then B6.out B6.out.size b7)
                  have hS7 : w7.cell? ⟨q, 2, none⟩ = some (.slice L N c) := (HH.out.below B7.out).tr.2.2
                  have oe67 := (oe6.lower (b' := w.heap.size) B5.out.size).below b7
                  obtain ⟨v8, w8, run8, own8, g8, -⟩ := run_append_ent (w := w7) w.heap.size (.slice A6 (es.take a).length c6) a (es.take a) D6 oe6.1 hlt.out (by have := oe67.2.1; rwa [hlt.out] at this ⊢) ⟨g7, 0, none⟩ (len - j) c7 (l.drop j) D7 oe7.1 hld.out (fun z u hz => by
                      obtain ⟨a', e', hc⟩ := re7.2.1 z u hz
                      cases e'
                      exact hc) (ecells_one oe7.1 (fun D hD => by
                      obtain ⟨z, hz, rfl⟩ := List.getElem_of_mem hD
                      obtain ⟨_, _, e9, _⟩ := (oe7.2.2 z (by rw [← oe7.1]; exact hz) hz).rd
                      rw [e9]; rfl)) (by have := HHA.out; omega) (fun _ => by omega) (Nat.le_trans B6.out.size b7.size)
                  rw [hlt.out] at run8
                  rw [hld.out] at hv7
                  subst hv7
                  have oe8 := oe67.append (fun z h1 h2 => (show OD w7 w.heap.size D7[z] (l.drop j)[z].d from ⟨own_lower (oe7.2.2 z h1 h2).1 B6.out.size, (oe7.2.2 z h1 h2).2⟩)) oe7.1 own8 (by rw [List.length_append, hlt.out, hld.out]) g8
                  have B8 := Lib.hid (B7.out.grown g8 B7.out.size fun z hz => (oe67.2.1.lt z hz).1)
                  have hlen8 := Lib.hid (show (es.take a ++ l.drop j).length = a + (len - j) by rw [List.length_append, hlt.out, hld.out])
                  obtain ⟨A8, c8, hv8, -⟩ := oe8.re
                  rw [hlen8.out] at hv8
                  subst hv8
                  have OE8 := Lib.hid oe8
                  refine hK.out _ _ (fun _ => hS7) ?_
                  clear hK K
                  try simp only [Act.put, List.getElem_toArray, List.getElem_cons_zero, List.getElem_cons_succ, List.setIfInBounds_toArray, List.set_cons_zero, List.set_cons_succ]
                  refine wpAnyZ_step (i := 12) rfl (by kernel_rfl) (fun K hK => ?_)
                  refine step_append_run rfl (.tmp 146) (.tmp 150) 22 rfl rfl _ _ rfl rfl _ _ run8 ?_
                  have hq8 := (B8.out.block q HH.out.lt).trans HH.out.2.1
                  have hc8 : w8.cell? ⟨q, 2, none⟩ = some (.slice L N c) := cellU hq8 2
                  refine hK.out _ _ (fun _ => hc8) ?_
                  clear hK K
                  try simp only [Act.put, List.getElem_toArray, List.getElem_cons_zero, List.getElem_cons_succ, List.setIfInBounds_toArray, List.set_cons_zero, List.set_cons_succ]
                  refine wpAnyZ_take (i := 13) (v := ?_) rfl (by kernel_rfl) (by kernel_rfl) (by kernel_rfl) (by kernel_rfl) (by decide) (fun _ _ _ h => h) (by rfl) ?_ (by assumption) ?_
                  rotate_left
                  · (intro w hSw; (try dsimp only at hSw); go_simp) <;> with_reducible rfl
                  try simp only [Act.put, List.getElem_toArray, List.getElem_cons_zero, List.getElem_cons_succ, List.setIfInBounds_toArray, List.set_cons_zero, List.set_cons_succ]
                  refine wpAnyZ_take (i := 14) (v := ?_) rfl (by kernel_rfl) (by kernel_rfl) (by kernel_rfl) (by kernel_rfl) (by decide) (fun _ _ _ h => h) (by rfl) ?_ (by assumption) ?_
                  rotate_left
                  · (intro w hSw; (try dsimp only at hSw); go_simp) <;> with_reducible rfl
                  try simp only [Act.put, List.getElem_toArray, List.getElem_cons_zero, List.getElem_cons_succ, List.setIfInBounds_toArray, List.set_cons_zero, List.set_cons_succ]
                  have hf8 : w8.frozen? ⟨q, 2, none⟩ = false := by simp [World.frozen?, hq8]
                  refine wpAnyZ_step (i := 15) rfl (by kernel_rfl) (fun K hK => ?_)
                  go_simp
                  refine hK.out _ _ (fun h => absurd rfl h) ?_
                  clear hK K
                  try simp only [Act.put, List.getElem_toArray, List.getElem_cons_zero, List.getElem_cons_succ, List.setIfInBounds_toArray, List.set_cons_zero, List.set_cons_succ]
                  refine wpAnyZ_done (by kernel_rfl) ?_
                  refine NoPanic.normal ?_
                  obtain ⟨w9, hw9⟩ : ∃ w9, w9 = w8.setCell ⟨q, 2, none⟩ (.slice A8 (a + (len - j)) c8) := ⟨_, rfl⟩
                  rw [← hw9]
                  have hq9 : w9.heap[q]? = some (.cells #[.int .i64 i, .int .i64 t, .slice A8 (a + (len - j)) c8] 85 (0, 0)) := by rw [hw9]; exact heap_setCell_same _ _ _ _ _ _ hq8
                  have ho9 : ∀ z, z ≠ q → w9.heap[z]? = w8.heap[z]? := fun z hz => by rw [hw9]; exact heap_setCell_other _ _ _ _ hz
                  have hqw := HH.out.lt
                  have oe9 : OE w9 w.heap.size (.slice A8 (a + (len - j)) c8) (es.take a ++ l.drop j) (D6 ++ D7) := OE8.out.step (fun z hz => ho9 z (by have := (OE8.out.2.1.lt z hz).1; omega)) (fun D hD z hz => ho9 z (by have := (OE8.out.dlt D hD z hz).1; omega))
                  have g9 : w.grownBy w9 (some q) := ⟨by rw [hw9]; exact B8.out.os, by rw [hw9]; exact B8.out.tape, by rw [hw9]; exact B8.out.output, by rw [hw9, World.size_setCell]; exact B8.out.size, fun z hz hzq => (ho9 z (fun e => hzq (by rw [e]))).trans (B8.out.block z hz)⟩
                  have T9 := Lib.hid (show RTO w9 base q i t (.slice A8 (a + (len - j)) c8) (es.take a ++ l.drop j) (D6 ++ D7) from ⟨HH.out.1, hq9, oe9.lower hbase⟩)
                  have G9 := Lib.hid g9
                  have F9 := Lib.hid (show ∀ k, OwnT (.slice A8 (a + (len - j)) c8) (D6 ++ D7) k → w.heap.size ≤ k from fun k h => h.elim (fun h => (OE8.out.2.1.lt k h).1) (fun ⟨D, hD, h⟩ => (OE8.out.dlt D hD k h).1))
                  clear hw9 hq9 ho9 oe9 g9 hf8 hc8 hq8 run8 own8 g8 oe8 oe67 oe6 oe7 b6 b7 re7 hS6 hS7 hHeld
                  go_wp2_with fail
                  refine (HC3.out _ G9.out).mono ?_
                  rintro e w10 ⟨v10, D10, rfl, oe10, b10⟩
                  go_wp2_with fail
                  go_ret3
                  rw [HMM.out]
                  exact ⟨_, _, _, D10, rfl, ⟨b10.os.trans G9.out.os, b10.tape.trans G9.out.tape, b10.output.trans G9.out.output, Nat.le_trans G9.out.size b10.size, fun z hz hzq => (b10.block z (Nat.lt_of_lt_of_le hz G9.out.size)).trans (G9.out.block z hz hzq)⟩, T9.out.below b10, oe10.lower G9.out.size, fun k h => .inr (F9.out k h)⟩
                · have hb : decide (¬ newAt i t es ⟨ei, et, ek, ed⟩) = true := decide_eq_true hnew
                  have HNW := Lib.hid hnew
                  rw [hb]
                  clear hnew hb
                  go_wp2_with fail
                  go_roundg (len - (j + 1))
                  case measure => omega
                  case rel =>
                    refine ⟨j + 1, rfl, by omega, by go_num, Lib.hid ⟨fun j' h hj' => ?_, below_drawn' B5.out⟩⟩
                    by_cases e : j' = j
                    · subst e; rw [← HE.out]; exact HNW.out
                    · exact HO.out.1 j' h (by omega)
            · obtain rfl : j = len := by omega
              have hjl1 : ¬ (j : Int) < (j : Int) := by omega
              have HMM := Lib.hid (merge_none HOK.out HPN.out HM.out (fun j' h => HO.out.1 j' h (by rw [← HL.out]; exact h)))
              rw [HL.out] at HMM
              go_wp2_with fail
              go_ret3
              rw [HMM.out]
              exact ⟨_, _, Ds, [], rfl, below_grown HO.out.2 _, HH.out.below HO.out.2, OE.nil _ _, fun k h => .inl h⟩
        · have hb4 : (lt != t) = true := by simp [c4]
          have HMM := Lib.hid (mergeT_differs (t := t) (es := es) HOK.out HPN.out (by rw [HL.out]; omega) (P := max prev i) rfl (T := termN term l (i - prev).toNat) rfl (l' := l.drop (i - prev).toNat) rfl (by
            rw [hmx, hsn, hmt.1, htn]
            exact fun e => c4 e.symm))
          clear hmt htn hmx hsn c4
          go_enter Tryd.func45, Tryd.ntmps45
          go_wp2_with fail
          refine HRW.out.mono ?_
          rintro e w0 ⟨rfl, hw0⟩
          rw [hw0]
          clear hw0 w0
          go_wp2_with fail
          refine HLA.out.mono ?_
          rintro e w1 ⟨rfl, b1⟩
          have B1 := Lib.hid b1
          clear b1
          go_wp2_with fail
          refine (HT1.out w1 B1.out).mono ?_
          rintro e w2 ⟨rfl, m1, rfl⟩
          have c0 : ∀ m, (w1.drewN m).cell? ⟨q, 0, none⟩ = some (.int .i64 i) := fun m => (HH.out.below B1.out).tr.1
          have c0' := c0 m1
          have c1' : ∀ m, (w1.drewN m).cell? ⟨q, 1, none⟩ = some (.int .i64 t) := fun m => (HH.out.below B1.out).tr.2.1
          have gk1 : ∀ m, (w1.drewN m).cell? ⟨g, o + kk * 4 + 1, none⟩ = some (.int .i64 lt) := fun m => GK.out w1 B1.out
          go_wp2_with fail
          go_big_quiet (fail)
          go_wp2_with fail
          go_ret3
          rw [HMM.out]
          exact ⟨_, _, Ds, [], rfl, below_grown (below_drawn' (below_drawn' B1.out)) _, HH.out.below (below_drawn' (below_drawn' B1.out)), OE.nil _ _, fun k h => .inl h⟩
      · have d2 : decide ((kk : Int) < (len : Int)) = false := decide_eq_false (by omega)
        have hc3 : ¬ (kk : Int) < (len : Int) := by omega
        have HM := Lib.hid (show prev + l.length < i ∨ termT i t es (max prev i) = termN term l (i - prev).toNat from .inl (by rw [HL.out]; omega))
        clear hkk
        go_enter Tryd.func45, Tryd.ntmps45
        go_wp2_with fail
        refine HRW.out.mono ?_
        rintro e w0 ⟨rfl, hw0⟩
        rw [hw0]
        clear hw0 w0
        go_wp2_with fail
        refine HLA.out.mono ?_
        rintro e w1 ⟨rfl, b1⟩
        have B1 := Lib.hid b1
        clear b1
        go_wp2_with fail
        refine (HT1.out w1 B1.out).mono ?_
        rintro e w2 ⟨rfl, m1, rfl⟩
        have c0 : ∀ m, (w1.drewN m).cell? ⟨q, 0, none⟩ = some (.int .i64 i) := fun m => (HH.out.below B1.out).tr.1
        have c0' := c0 m1
        have c1' : ∀ m, (w1.drewN m).cell? ⟨q, 1, none⟩ = some (.int .i64 t) := fun m => (HH.out.below B1.out).tr.2.1
        go_wp2_with fail
        go_big_quiet (fail)
        go_wp2_with fail
        go_loopg [14, 15, 17] len (fun gk ov iv ki wr => ∃ (j : Nat), gk = len - j ∧ j ≤ len ∧ ki = .int .i64 j ∧ Hid ((∀ j' (h : j' < l.length), j' < j → ¬ newAt i t es l[j']) ∧ Below w.heap.size w wr))
        case atStart => exact ⟨0, by omega, by omega, rfl, Lib.hid ⟨fun j' h hj => by omega, below_drawn' (below_drawn' B1.out)⟩⟩
        case round =>
          obtain ⟨j, hgk, hj, rfl, HO⟩ := hrel
          clear c0 c0' c1'
          (try clear gk1)
          by_cases hjl : j < len
          · have hjl1 : (j : Int) < (len : Int) := by omega
            have hje : j < l.length := by rw [HL.out]; exact hjl
            obtain ⟨g', o', hA', hg', -⟩ := HRL.out.addr (by omega)
            cases hA'
            obtain ⟨r0, r1, -, -, -⟩ := (HRL.out.below HO.out.2).at j hje
            obtain ⟨E, hE⟩ : ∃ E, E = l[j] := ⟨_, rfl⟩
            rw [← hE] at r0 r1
            have hEi := follows_get HFL.out j hje
            rw [← hE] at hEi
            have HE := Lib.hid hE
            clear hE
            obtain ⟨ei, et, ek, ed⟩ := E
            simp only at r0 r1 hEi
            have hei := Lib.hid hEi
            have hei1 : ei ≤ 10000000000000 := by omega
            have hei2 : 0 ≤ ei := by omega
            have HT2 := Lib.hid (HTA.out ei wr HO.out.2)
            obtain ⟨old2, ho2⟩ : ∃ x, Hid (x = termT i t es ei) := ⟨_, Lib.hid rfl⟩
            obtain ⟨is2, hi2⟩ : ∃ x, Hid (x = inT i es ei) := ⟨_, Lib.hid rfl⟩
            rw [← ho2.out, ← hi2.out] at HT2
            clear hEi
            go_wp2_with fail
            refine HT2.out.mono ?_
            rintro e w4 ⟨rfl, m2, rfl⟩
            have B5 := Lib.hid (show Below w.heap.size w (wr.drewN m2) from below_drawn' HO.out.2)
            obtain ⟨W5, hW5⟩ : ∃ W5, W5 = wr.drewN m2 := ⟨_, rfl⟩
            have q0 : ∀ m, (W5.drewN m).cell? ⟨q, 0, none⟩ = some (.int .i64 i) := fun m => by rw [hW5]; exact (HH.out.below HO.out.2).tr.1
            have q1 : ∀ m, (W5.drewN m).cell? ⟨g', o' + j * 4, none⟩ = some (.int .i64 ei) := fun m => by rw [hW5]; exact r0
            have q2 : ∀ m, (W5.drewN m).cell? ⟨g', o' + j * 4 + 1, none⟩ = some (.int .i64 et) := fun m => by rw [hW5]; exact r1
            rw [← hW5] at B5 ⊢
            clear hW5 r0 r1 HT2
            go_wp2_with fail
            go_cut [127] from 90 to 161 (fun cc wx => cc = .bool (decide (¬ newAt i t es ⟨ei, et, ek, ed⟩)) ∧ ∃ m, wx = W5.drewN m)
            case first =>
              by_cases hx : ei ≤ i
              · have d5 : decide (ei ≤ i) = true := decide_eq_true hx
                go_wp2_with fail
                go_big_quiet (fail)
                go_wp2_with fail
                go_meet
                exact ⟨congrArg Value.bool (decide_eq_true (p := ¬ newAt i t es ⟨ei, et, ek, ed⟩) (fun h => by have := h.1; simp only at this; omega)).symm, _, rfl⟩
              · have d5 : decide (ei ≤ i) = false := decide_eq_false hx
                cases is2 with
                | false =>
                  go_wp2_with fail
                  go_big_quiet (fail)
                  go_wp2_with fail
                  go_meet
                  exact ⟨congrArg Value.bool (decide_eq_false (p := ¬ newAt i t es ⟨ei, et, ek, ed⟩) (fun h => h ⟨show i < ei by omega, by unfold isNew; simp only; rw [← hi2.out]; rfl⟩)).symm, _, rfl⟩
                | true =>
                  by_cases hot : old2 = et
                  · have d6 : (old2 == et) = true := by simp [hot]
                    have HOT := Lib.hid hot
                    clear hot
                    go_wp2_with fail
                    go_big_quiet (fail)
                    go_wp2_with fail
                    go_meet
                    exact ⟨congrArg Value.bool (decide_eq_true (p := ¬ newAt i t es ⟨ei, et, ek, ed⟩) (fun h => by have h2 := h.2; unfold isNew at h2; simp only at h2; rw [← hi2.out, ← ho2.out, HOT.out] at h2; simp at h2)).symm, _, rfl⟩
                  · have d6 : (old2 == et) = false := by simp [hot]
                    have HOT := Lib.hid hot
                    clear hot
                    go_wp2_with fail
                    go_big_quiet (fail)
                    go_wp2_with fail
                    go_meet
                    exact ⟨congrArg Value.bool (decide_eq_false (p := ¬ newAt i t es ⟨ei, et, ek, ed⟩) (fun h => h ⟨show i < ei by omega, by unfold isNew; simp only; rw [← hi2.out, ← ho2.out]; simp [HOT.out]⟩)).symm, _, rfl⟩
            case rest =>
              obtain ⟨rfl, m5, rfl⟩ := hcut
              by_cases hnew : newAt i t es ⟨ei, et, ek, ed⟩
              · have hb : decide (¬ newAt i t es ⟨ei, et, ek, ed⟩) = false := decide_eq_false (fun h => h hnew)
                obtain ⟨a, ha, haN, hmm⟩ := merge_found HOK.out HPN.out HM.out j hje (by rw [← HE.out]; exact hnew) HO.out.1
                rw [HL.out] at hmm
                have HMM := Lib.hid hmm
                rw [hn.out] at haN
                have s1 : IntKind.i64.wrap (ei - i) = (a : Int) + 1 := (IntWalk.i64_in (ei - i) (by omega)).trans (by have := hei.out; omega)
                have s2 : IntKind.i64.wrap ((a : Int) + 1 - 1) = (a : Int) := (IntWalk.i64_in ((a : Int) + 1 - 1) (by omega)).trans (by omega)
                have s3 : IntKind.i64.wrap (a : Int) = (a : Int) := IntWalk.i64_in (a : Int) (by omega)
                have HC1 := Lib.hid fun (w' : World) (b : Below w.heap.size w w') => rcopied_any L a c (es.take a) (Ds.take a) w' ((HRE.out.below b).take a) (by rw [List.length_take, hn.out]; omega) (by omega)
                have HC2 := Lib.hid fun (w' : World) (b : Below w.heap.size w w') => rcopied_any (some ⟨g', o' + j * 4, none⟩) (len - j) (ca - j) (l.drop j) (Dl.drop j) w' ((HRL.out.below b).drop j) (by rw [List.length_drop, HL.out]) (by omega)
                have HC3 := Lib.hid fun (w' : World) (b : w.grownBy w' (some q)) => rcopied_any (some ⟨g', o' + j * 4, none⟩) (len - j) (ca - j) (l.drop j) (Dl.drop j) w' ((HRL.out.growR HH.out b).drop j) (by rw [List.length_drop, HL.out]) (by omega)
                have hlt := Lib.hid (show (es.take a).length = a by rw [List.length_take, hn.out]; omega)
                have hld := Lib.hid (show (l.drop j).length = len - j by rw [List.length_drop, HL.out])
                have hck : ¬ ca = j := by omega
                have hj0 : (0 : Int) ≤ (j : Int) := by omega
                have hj2 : (j : Int) ≤ (len : Int) := by omega
                have hn0 : (0 : Int) ≤ (a : Int) := by omega
                have hn2 : (a : Int) ≤ (c : Int) := by omega
                have hS0 : ∀ m, (W5.drewN m).cell? ⟨q, 2, none⟩ = some (.slice L N c) := fun m => (HH.out.below B5.out).tr.2.2
                rw [hb]
                have HHA := Lib.hid ha
                clear hmm hnew hb ha
                go_wp2_with fail
                go_big_quiet (fail)
                go_wp2_with fail
                refine wp_region_Z (fun w' => w'.cell? ⟨q, 2, none⟩ = some (.slice L N c)) 15 (by kernel_rfl) (hS0 0) (fun hHeld => ?_)
                refine wpAnyZ_take (i := 0) (v := ?_) rfl (by kernel_rfl) (by kernel_rfl) (by kernel_rfl) (by kernel_rfl) (by decide) (fun _ _ _ h => h) (by rfl) ?_ (by assumption) ?_
                rotate_left
                · (intro w hSw; (try dsimp only at hSw); go_simp) <;> with_reducible rfl
                try simp only [Act.put, List.getElem_toArray, List.getElem_cons_zero, List.getElem_cons_succ, List.setIfInBounds_toArray, List.set_cons_zero, List.set_cons_succ]
                refine wpAnyZ_take (i := 1) (v := ?_) rfl (by kernel_rfl) (by kernel_rfl) (by kernel_rfl) (by kernel_rfl) (by decide) (fun _ _ _ h => h) (by rfl) ?_ (by assumption) ?_
                rotate_left
                · (intro w hSw; (try dsimp only at hSw); go_simp) <;> with_reducible rfl
                try simp only [Act.put, List.getElem_toArray, List.getElem_cons_zero, List.getElem_cons_succ, List.setIfInBounds_toArray, List.set_cons_zero, List.set_cons_succ]
                refine wpAnyZ_take (i := 2) (v := ?_) rfl (by kernel_rfl) (by kernel_rfl) (by kernel_rfl) (by kernel_rfl) (by decide) (fun _ _ _ h => h) (by rfl) ?_ (by assumption) ?_
                rotate_left
                · (intro w hSw; (try dsimp only at hSw); go_simp) <;> with_reducible rfl
                try simp only [Act.put, List.getElem_toArray, List.getElem_cons_zero, List.getElem_cons_succ, List.setIfInBounds_toArray, List.set_cons_zero, List.set_cons_succ]
                refine wpAnyZ_take (i := 3) (v := ?_) rfl (by kernel_rfl) (by kernel_rfl) (by kernel_rfl) (by kernel_rfl) (by decide) (fun _ _ _ h => h) (by rfl) ?_ (by assumption) ?_
                rotate_left
                · (intro w hSw; (try dsimp only at hSw); go_simp) <;> with_reducible rfl
                try simp only [Act.put, List.getElem_toArray, List.getElem_cons_zero, List.getElem_cons_succ, List.setIfInBounds_toArray, List.set_cons_zero, List.set_cons_succ]
                refine wpAnyZ_take (i := 4) (v := ?_) rfl (by kernel_rfl) (by kernel_rfl) (by kernel_rfl) (by kernel_rfl) (by decide) (fun _ _ _ h => h) (by rfl) ?_ (by assumption) ?_
                rotate_left
                · (intro w hSw; (try dsimp only at hSw); go_simp) <;> with_reducible rfl
                try simp only [Act.put, List.getElem_toArray, List.getElem_cons_zero, List.getElem_cons_succ, List.setIfInBounds_toArray, List.set_cons_zero, List.set_cons_succ]
                refine wpAnyZ_take (i := 5) (v := ?_) rfl (by kernel_rfl) (by kernel_rfl) (by kernel_rfl) (by kernel_rfl) (by decide) (fun _ _ _ h => h) (by rfl) ?_ (by assumption) ?_
                rotate_left
                · (intro w hSw; (try dsimp only at hSw); go_simp) <;> with_reducible rfl
                try simp only [Act.put, List.getElem_toArray, List.getElem_cons_zero, List.getElem_cons_succ, List.setIfInBounds_toArray, List.set_cons_zero, List.set_cons_succ]
                refine wpAnyZ_take (i := 6) (v := ?_) rfl (by kernel_rfl) (by kernel_rfl) (by kernel_rfl) (by kernel_rfl) (by decide) (fun _ _ _ h => h) (by rfl) ?_ (by assumption) ?_
                rotate_left
                · (intro w hSw; (try dsimp only at hSw); go_simp) <;> with_reducible rfl
                try simp only [Act.put, List.getElem_toArray, List.getElem_cons_zero, List.getElem_cons_succ, List.setIfInBounds_toArray, List.set_cons_zero, List.set_cons_succ]
                refine wpAnyZ_take (i := 8) (v := ?_) rfl (by kernel_rfl) (by kernel_rfl) (by kernel_rfl) (by kernel_rfl) (by decide) (fun _ _ _ h => h) (by rfl) ?_ (by assumption) ?_
                rotate_left
                · (intro w hSw; (try dsimp only at hSw); go_simp) <;> with_reducible rfl
                try simp only [Act.put, List.getElem_toArray, List.getElem_cons_zero, List.getElem_cons_succ, List.setIfInBounds_toArray, List.set_cons_zero, List.set_cons_succ]
                refine wpAnyZ_take (i := 9) (v := ?_) rfl (by kernel_rfl) (by kernel_rfl) (by kernel_rfl) (by kernel_rfl) (by decide) (fun _ _ _ h => h) (by rfl) ?_ (by assumption) ?_
                rotate_left
                · (intro w hSw; (try dsimp only at hSw); go_simp) <;> with_reducible rfl
                try simp only [Act.put, List.getElem_toArray, List.getElem_cons_zero, List.getElem_cons_succ, List.setIfInBounds_toArray, List.set_cons_zero, List.set_cons_succ]
                refine wpAnyZ_take (i := 10) (v := ?_) rfl (by kernel_rfl) (by kernel_rfl) (by kernel_rfl) (by kernel_rfl) (by decide) (fun _ _ _ h => h) (by rfl) ?_ (by assumption) ?_
                rotate_left
                · (intro w hSw; (try dsimp only at hSw); go_simp) <;> with_reducible rfl
                try simp only [Act.put, List.getElem_toArray, List.getElem_cons_zero, List.getElem_cons_succ, List.setIfInBounds_toArray, List.set_cons_zero, List.set_cons_succ]
                refine wpAnyZ_step (i := 7) rfl (by kernel_rfl) (fun K hK => ?_)
                go_simp
                refine (HC1.out _ (below_drawn' B5.out)).mono ?_
                rintro e w6 ⟨v6, D6, rfl, oe6, b6⟩
                obtain ⟨A6, c6, rfl, -⟩ := oe6.re
                rw [hlt.out]
                have B6 := Lib.hid (below_then (below_drawn' B5.out) (below_drawn' B5.out).size b6)
                have hS6 : w6.cell? ⟨q, 2, none⟩ = some (.slice L N c) := (HH.out.below B6.out).tr.2.2
                refine hK.out _ _ (fun _ => hS6) ?_
                clear hK K
                try simp only [Act.put, List.getElem_toArray, List.getElem_cons_zero, List.getElem_cons_succ, List.setIfInBounds_toArray, List.set_cons_zero, List.set_cons_succ]
                refine wpAnyZ_step (i := 11) rfl (by kernel_rfl) (fun K hK => ?_)
                go_simp
                refine (HC2.out _ B6.out).mono ?_
                rintro e w7 ⟨v7, D7, rfl, oe7, b7⟩
                have hdp : 0 < (l.drop j).length := by rw [hld.out]; omega
                obtain ⟨g7, c7, hv7, re7, -⟩ := oe7.head hdp
                have B7 := Lib.hid (below_then B6.out B6.out.size b7)
                have hS7 : w7.cell? ⟨q, 2, none⟩ = some (.slice L N c) := (HH.out.below B7.out).tr.2.2
                have oe67 := (oe6.lower (b' := w.heap.size) B5.out.size).below b7
                obtain ⟨v8, w8, run8, own8, g8, -⟩ := run_append_ent (w := w7) w.heap.size (.slice A6 (es.take a).length c6) a (es.take a) D6 oe6.1 hlt.out (by have := oe67.2.1; rwa [hlt.out] at this ⊢) ⟨g7, 0, none⟩ (len - j) c7 (l.drop j) D7 oe7.1 hld.out (fun z u hz => by
                    obtain ⟨a', e', hc⟩ := re7.2.1 z u hz
                    cases e'
                    exact hc) (ecells_one oe7.1 (fun D hD => by
                    obtain ⟨z, hz, rfl⟩ := List.getElem_of_mem hD
                    obtain ⟨_, _, e9, _⟩ := (oe7.2.2 z (by rw [← oe7.1]; exact hz) hz).rd
                    rw [e9]; rfl)) (by have := HHA.out; omega) (fun _ => by omega) (Nat.le_trans B6.out.size b7.size)
                rw [hlt.out] at run8
                rw [hld.out] at hv7
                subst hv7
                have oe8 := oe67.append (fun z h1 h2 => (show OD w7 w.heap.size D7[z] (l.drop j)[z].d from ⟨own_lower (oe7.2.2 z h1 h2).1 B6.out.size, (oe7.2.2 z h1 h2).2⟩)) oe7.1 own8 (by rw [List.length_append, hlt.out, hld.out]) g8
                have B8 := Lib.hid (B7.out.grown g8 B7.out.size fun z hz => (oe67.2.1.lt z hz).1)
                have hlen8 := Lib.hid (show (es.take a ++ l.drop j).length = a + (len - j) by rw [List.length_append, hlt.out, hld.out])
                obtain ⟨A8, c8, hv8, -⟩ := oe8.re
                rw [hlen8.out] at hv8
                subst hv8
                have OE8 := Lib.hid oe8
                refine hK.out _ _ (fun _ => hS7) ?_
                clear hK K
                try simp only [Act.put, List.getElem_toArray, List.getElem_cons_zero, List.getElem_cons_succ, List.setIfInBounds_toArray, List.set_cons_zero, List.set_cons_succ]
                refine wpAnyZ_step (i := 12) rfl (by kernel_rfl) (fun K hK => ?_)
                refine step_append_run rfl (.tmp 146) (.tmp 150) 22 rfl rfl _ _ rfl rfl _ _ run8 ?_
                have hq8 := (B8.out.block q HH.out.lt).trans HH.out.2.1
                have hc8 : w8.cell? ⟨q, 2, none⟩ = some (.slice L N c) := cellU hq8 2
                refine hK.out _ _ (fun _ => hc8) ?_
                clear hK K
                try simp only [Act.put, List.getElem_toArray, List.getElem_cons_zero, List.getElem_cons_succ, List.setIfInBounds_toArray, List.set_cons_zero, List.set_cons_succ]
                refine wpAnyZ_take (i := 13) (v := ?_) rfl (by kernel_rfl) (by kernel_rfl) (by kernel_rfl) (by kernel_rfl) (by decide) (fun _ _ _ h => h) (by rfl) ?_ (by assumption) ?_
                rotate_left
                · (intro w hSw; (try dsimp only at hSw); go_simp) <;> with_reducible rfl
                try simp only [Act.put, List.getElem_toArray, List.getElem_cons_zero, List.getElem_cons_succ, List.setIfInBounds_toArray, List.set_cons_zero, List.set_cons_succ]
                refine wpAnyZ_take (i := 14) (v := ?_) rfl (by kernel_rfl) (by kernel_rfl) (by kernel_rfl) (by kernel_rfl) (by decide) (fun _ _ _ h => h) (by rfl) ?_ (by assumption) ?_
                rotate_left
                · (intro w hSw; (try dsimp only at hSw); go_simp) <;> with_reducible rfl
                try simp only [Act.put, List.getElem_toArray, List.getElem_cons_zero, List.getElem_cons_succ, List.setIfInBounds_toArray, List.set_cons_zero, List.set_cons_succ]
                have hf8 : w8.frozen? ⟨q, 2, none⟩ = false := by simp [World.frozen?, hq8]
                refine wpAnyZ_step (i := 15) rfl (by kernel_rfl) (fun K hK => ?_)
                go_simp
                refine hK.out _ _ (fun h => absurd rfl h) ?_
                clear hK K
                try simp only [Act.put, List.getElem_toArray, List.getElem_cons_zero, List.getElem_cons_succ, List.setIfInBounds_toArray, List.set_cons_zero, List.set_cons_succ]
                refine wpAnyZ_done (by kernel_rfl) ?_
                refine NoPanic.normal ?_
                obtain ⟨w9, hw9⟩ : ∃ w9, w9 = w8.setCell ⟨q, 2, none⟩ (.slice A8 (a + (len - j)) c8) := ⟨_, rfl⟩
                rw [← hw9]
                have hq9 : w9.heap[q]? = some (.cells #[.int .i64 i, .int .i64 t, .slice A8 (a + (len - j)) c8] 85 (0, 0)) := by rw [hw9]; exact heap_setCell_same _ _ _ _ _ _ hq8
                have ho9 : ∀ z, z ≠ q → w9.heap[z]? = w8.heap[z]? := fun z hz => by rw [hw9]; exact heap_setCell_other _ _ _ _ hz
                have hqw := HH.out.lt
                have oe9 : OE w9 w.heap.size (.slice A8 (a + (len - j)) c8) (es.take a ++ l.drop j) (D6 ++ D7) := OE8.out.step (fun z hz => ho9 z (by have := (OE8.out.2.1.lt z hz).1; omega)) (fun D hD z hz => ho9 z (by have := (OE8.out.dlt D hD z hz).1; omega))
                have g9 : w.grownBy w9 (some q) := ⟨by rw [hw9]; exact B8.out.os, by rw [hw9]; exact B8.out.tape, by rw [hw9]; exact B8.out.output, by rw [hw9, World.size_setCell]; exact B8.out.size, fun z hz hzq => (ho9 z (fun e => hzq (by rw [e]))).trans (B8.out.block z hz)⟩
                have T9 := Lib.hid (show RTO w9 base q i t (.slice A8 (a + (len - j)) c8) (es.take a ++ l.drop j) (D6 ++ D7) from ⟨HH.out.1, hq9, oe9.lower hbase⟩)
                have G9 := Lib.hid g9
                have F9 := Lib.hid (show ∀ k, OwnT (.slice A8 (a + (len - j)) c8) (D6 ++ D7) k → w.heap.size ≤ k from fun k h => h.elim (fun h => (OE8.out.2.1.lt k h).1) (fun ⟨D, hD, h⟩ => (OE8.out.dlt D hD k h).1))
                clear hw9 hq9 ho9 oe9 g9 hf8 hc8 hq8 run8 own8 g8 oe8 oe67 oe6 oe7 b6 b7 re7 hS6 hS7 hHeld
                go_wp2_with fail
                refine (HC3.out _ G9.out).mono ?_
                rintro e w10 ⟨v10, D10, rfl, oe10, b10⟩
                go_wp2_with fail
                go_ret3
                rw [HMM.out]
                exact ⟨_, _, _, D10, rfl, ⟨b10.os.trans G9.out.os, b10.tape.trans G9.out.tape, b10.output.trans G9.out.output, Nat.le_trans G9.out.size b10.size, fun z hz hzq => (b10.block z (Nat.lt_of_lt_of_le hz G9.out.size)).trans (G9.out.block z hz hzq)⟩, T9.out.below b10, oe10.lower G9.out.size, fun k h => .inr (F9.out k h)⟩
              · have hb : decide (¬ newAt i t es ⟨ei, et, ek, ed⟩) = true := decide_eq_true hnew
                have HNW := Lib.hid hnew
                rw [hb]
                clear hnew hb
                go_wp2_with fail
                go_roundg (len - (j + 1))
                case measure => omega
                case rel =>
                  refine ⟨j + 1, rfl, by omega, by go_num, Lib.hid ⟨fun j' h hj' => ?_, below_drawn' B5.out⟩⟩
                  by_cases e : j' = j
                  · subst e; rw [← HE.out]; exact HNW.out
                  · exact HO.out.1 j' h (by omega)
          · obtain rfl : j = len := by omega
            have hjl1 : ¬ (j : Int) < (j : Int) := by omega
            have HMM := Lib.hid (merge_none HOK.out HPN.out HM.out (fun j' h => HO.out.1 j' h (by rw [← HL.out]; exact h)))
            rw [HL.out] at HMM
            go_wp2_with fail
            go_ret3
            rw [HMM.out]
            exact ⟨_, _, Ds, [], rfl, below_grown HO.out.2 _, HH.out.below HO.out.2, OE.nil _ _, fun k h => .inl h⟩
end Go.Proofs.YtkjpfjgaabbggaaDoor
