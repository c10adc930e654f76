/- muntinlaw16.SessionAgain: the walk. -/
import Derived.Test.YtbdokphemdkhmaaDoorSCore
import Derived.Test.YtbdokphemdkhmaaDoorSessionFew
set_option linter.unusedVariables false
set_option linter.unusedSimpArgs false
namespace Go.Proofs.YtbdokphemdkhmaaDoor
open Go.RowKit

/-- two tables of one content -/
structure GS (w : World) (p b p2 b2 : Nat) (wr : World) (k : Nat) (clock : Int) (ss s2 : List SV) : Prop where
  tb : TB wr w.heap.size p b clock ss
  t2 : TB wr w.heap.size p2 b2 clock s2
  inv : Inv clock ss
  inv2 : Inv clock s2
  same : ss.map core = s2.map core
  ck : clock ≤ k
  bel : Below w.heap.size w wr
theorem GS.below {w : World} {p b p2 b2 : Nat} {wr wr' : World} {k : Nat} {clock : Int} {ss s2 : List SV} (h : GS w p b p2 b2 wr k clock ss s2) (hb : Below wr.heap.size wr wr') : GS w p b p2 b2 wr' k clock ss s2 :=
  ⟨h.tb.below hb, h.t2.below hb, h.inv, h.inv2, h.same, h.ck, below_then h.bel h.bel.size hb⟩
theorem Inv.same {clock : Int} {ss s2 : List SV} (h : Inv clock ss) (hr : risS s2) (hc : ss.map core = s2.map core) : Inv clock s2 := by
  have hm : ∀ s ∈ s2, ∃ t ∈ ss, core t = core s := fun s hs => by
    have : core s ∈ ss.map core := by rw [hc]; exact List.mem_map.2 ⟨s, hs, rfl⟩
    obtain ⟨t, h1, h2⟩ := List.mem_map.1 this
    exact ⟨t, h1, h2⟩
  refine ⟨hr, by rw [← core_len hc]; exact h.len, h.c0, fun s hs => ?_, fun s hs t ht e => ?_⟩
  · obtain ⟨t, h1, h2⟩ := hm s hs
    simp only [core, Prod.mk.injEq] at h2
    obtain ⟨e1, e2, e3, e4⟩ := h2
    rw [← e1, ← e2, ← e3, ← e4]
    exact h.each t h1
  · obtain ⟨s', h1, h2⟩ := hm s hs
    obtain ⟨t', h3, h4⟩ := hm t ht
    have e1 : s'.u = s.u := congrArg (fun x => x.2.2.1) h2
    have e2 : t'.u = t.u := congrArg (fun x => x.2.2.1) h4
    have e3 : s'.i = s.i := congrArg (fun x => x.1) h2
    have e4 : t'.i = t.i := congrArg (fun x => x.1) h4
    have := h.used s' h1 t' h3 (by omega)
    subst this
    exact risS_same hr hs ht (by omega)

set_option maxRecDepth 100000 in
set_option maxHeartbeats 4000000 in
theorem sessionAgain_walk (A : Option Addr) (n c : Nat) (av : List SV) (A2 : Option Addr) (n2 c2 : Nat) (mv : List SV) (w : World) (hE : ErrT w) (hr : RA w A av) (hl : av.length = n) (hn : n ≤ 10000000000000) (hr2 : RA w A2 mv) (hl2 : mv.length = n2) (hn2 : n2 ≤ 10000000000000) :
    Calls Tryd.prog 6 #[.slice A n c, .slice A2 n2 c2] w fun e w' => e = .returned (.bool true) ∧ Below w.heap.size w w' := by
  have HS := Lib.hid (small_any w hE)
  have HR := Lib.hid hr
  have HL := Lib.hid hl
  have HR2 := Lib.hid hr2
  have HL2 := Lib.hid hl2
  have HE := Lib.hid hE
  have hw0 := Lib.hid (Nat.lt_of_le_of_lt (Nat.zero_le _) (World.block_lt_of_cell? _ _ hE))
  clear hr hl hE hr2 hl2
  go_enter Tryd.func6, Tryd.ntmps6
  go_wp2_with fail
  refine HS.out.mono ?_
  rintro e w1 ⟨rfl, b1⟩
  have HB1 := Lib.hid b1
  clear b1
  go_wp2_with fail
  refine (new_any w1).mono ?_
  rintro e w2 ⟨p, b, rfl, t2, b2⟩
  have hpw : w.heap.size ≤ p := Nat.le_trans HB1.out.size t2.1
  have hbw : w.heap.size ≤ b := Nat.le_trans HB1.out.size t2.2.1
  have H0 := Lib.hid (show FS w p b w2 0 0 [] from ⟨⟨hpw, hbw, t2.2.2.1, t2.2.2.2.1, by simp⟩, Inv.new, by simp, below_then HB1.out HB1.out.size b2⟩)
  clear t2 b2
  go_wp2_with fail
  go_loopg [7] 100 (fun q ki wr => ∃ (k : Nat) (clock : Int) (ss : List SV), q = 100 - k ∧ k ≤ 100 ∧ ki = .int .i64 k ∧ FS w p b wr k clock ss)
  case atStart => exact ⟨0, 0, [], rfl, by omega, rfl, H0.out⟩
  case round =>
    obtain ⟨k, clock, ss, hq, hk, rfl, O⟩ := hrel
    have HO := Lib.hid O
    clear O
    by_cases hkn : k < n ∧ k < 100
    · obtain ⟨hk1, hk2⟩ := hkn
      have hk1i : (k : Int) < (n : Int) := by omega
      have hk2i : (k : Int) < 100 := by omega
      have hka : k < av.length := by rw [HL.out]; exact hk1
      obtain ⟨g, o, rfl, hg, hc⟩ := (HR.out.below HO.out.bel).addr (by omega)
      obtain ⟨c0, c1, c2', c3', hrd, w0', w1', w2'⟩ := hc k hka
      obtain ⟨a, ha⟩ : ∃ a, a = av[k] := ⟨_, rfl⟩
      rw [← ha] at c0 c1 c2' c3' hrd w0' w1' w2'
      have HE3 := HE.out.below HO.out.bel
      have HDO := Lib.hid (do_any w.heap.size p b clock ss a wr HO.out.tb HO.out.inv HO.out.bel.size HE3 hw0.out hrd w1' (by have := HO.out.ck; omega))
      have W1 := Lib.hid w1'
      have W2 := Lib.hid w2'
      simp only [SV.D] at c3'
      clear hc hrd w0' w1' w2' ha HE3
      go_wp2_with fail
      refine HDO.out.mono ?_
      rintro e w4 ⟨clock', ss', rfl, t4, p4, f4⟩
      have HF4 := Lib.hid (show FS w p b w4 (k + 1) clock' ss' from ⟨t4, HO.out.inv.act p4 W1.out W2.out, by have := p4.clock; have := HO.out.ck; omega, f4.bel HO.out.bel hpw hbw⟩)
      clear t4 p4 f4
      go_wp2_with fail
      go_roundg (100 - (k + 1))
      case measure => omega
      case rel => exact ⟨k + 1, _, _, rfl, by omega, by go_num, HF4.out⟩
    · have HLS := Lib.hid (list_any w.heap.size p b clock ss wr HO.out.tb (by have := HO.out.inv.len; omega))
      by_cases hk1 : k < n
      · have hk1i : (k : Int) < (n : Int) := by omega
        have hk2i : ¬ (k : Int) < 100 := by omega
        clear hkn
        go_wp2_with fail
        refine HLS.out.mono ?_
        rintro e w3 ⟨v, ls, rfl, lo, b3⟩
        have HO3 := Lib.hid (HO.out.below b3)
        obtain ⟨A3, c3, rfl, hA3⟩ := lo.shape
        have HLO := Lib.hid lo
        clear lo b3 hA3
        go_wp2_with fail
        refine (clock_any _ p b clock ss w3 HO3.out.tb).mono ?_
        rintro e w3' ⟨rfl, rfl⟩
        have hgood : restOK clock ls := ⟨HO.out.inv.good.same HLO.out.same.symm, HO.out.inv.c0, by have := HO.out.ck; omega, by rw [HLO.out.len]; exact HO.out.inv.len⟩
        have HGD := Lib.hid hgood
        have HRS := Lib.hid (restore_any A3 ss.length c3 ls clock w3' (HLO.out.rs HLO.out.len) HLO.out.len (by have := HO.out.inv.len; omega) (fun s hs => by
          have hm : core s ∈ ss.map core := by rw [← HLO.out.same]; exact List.mem_map.2 ⟨s, hs, rfl⟩
          obtain ⟨t, ht, hc⟩ := List.mem_map.1 hm
          simp only [core, Prod.mk.injEq] at hc
          obtain ⟨e1, _, e3, _⟩ := hc
          obtain ⟨a1, a2, a3, a4, a5, a6, a7, a8⟩ := HO.out.inv.each t ht
          have := HO.out.ck
          rw [← e1, ← e3]
          exact ⟨a2, WalkArith.wf_i64 (by omega)⟩))
        clear hgood
        go_wp2_with fail
        refine HRS.out.mono ?_
        rintro e w4 ⟨b4, hres⟩
        obtain ⟨-, p2, bb2, s2, rfl, tb2, hs2⟩ | ⟨hno, -⟩ := hres
        rotate_left
        · exact absurd HGD.out hno
        have hp2 : w3'.heap.size ≤ p2 := tb2.1
        have hb2 : w3'.heap.size ≤ bb2 := tb2.2.1
        have hsz := HO3.out.bel.size
        have hpl := HO3.out.tb.plt
        have hbl := HO3.out.tb.2.2.2.1.lt
        have hnp := Lib.hid (show p2 ≠ p by omega)
        have hnb := Lib.hid (show bb2 ≠ b by omega)
        have hp2w := Lib.hid (show w.heap.size ≤ p2 by omega)
        have hb2w := Lib.hid (show w.heap.size ≤ bb2 by omega)
        have G0 := Lib.hid (show GS w p b p2 bb2 w4 100 clock ss s2 from by
          have hcs : ss.map core = s2.map core := by rw [hs2]; exact HLO.out.same.symm
          exact ⟨(HO3.out.below b4).tb, tb2.lower (by omega), HO.out.inv, HO.out.inv.same (risS_of tb2.2.2.2.1.1) hcs, hcs, by have := HO.out.ck; omega, (HO3.out.below b4).bel⟩)
        clear b4 tb2 hs2 hp2 hb2 hsz hpl hbl
        go_wp2_with fail
        go_loopg [10] 100 (fun q ki wr => ∃ (i : Nat) (clock : Int) (ss s2 : List SV), q = 100 - i ∧ i ≤ 100 ∧ ki = .int .i64 i ∧ GS w p b p2 bb2 wr (100 + i) clock ss s2)
        case atStart => exact ⟨0, _, _, _, rfl, by omega, rfl, G0.out⟩
        case round =>
          obtain ⟨i, clock, ss, s2, hq2, hi, rfl, G⟩ := hrel
          have HG := Lib.hid G
          clear G
          by_cases hin : i < n2 ∧ i < 100
          · obtain ⟨hi1, hi2⟩ := hin
            have hi1i : (i : Int) < (n2 : Int) := by omega
            have hi2i : (i : Int) < 100 := by omega
            have hia : i < mv.length := by rw [HL2.out]; exact hi1
            obtain ⟨g, o, rfl, hg, hc⟩ := (HR2.out.below HG.out.bel).addr (by omega)
            obtain ⟨c0, c1, c2', c3', hrd, w0', w1', w2'⟩ := hc i hia
            obtain ⟨a, ha⟩ : ∃ a, a = mv[i] := ⟨_, rfl⟩
            rw [← ha] at c0 c1 c2' c3' hrd w0' w1' w2'
            have HA := Lib.hid ha
            have HE3 := HE.out.below HG.out.bel
            have HDO := Lib.hid (do_any w.heap.size p b clock ss a wr HG.out.tb HG.out.inv HG.out.bel.size HE3 hw0.out hrd w1' (by have := HG.out.ck; omega))
            have W1 := Lib.hid w1'
            have W2 := Lib.hid w2'
            simp only [SV.D] at c3'
            clear hc hrd w0' w1' w2' ha HE3
            obtain ⟨x, hx⟩ : ∃ x, x = doN ss a := ⟨_, rfl⟩
            obtain ⟨rb, hrb⟩ : ∃ rb, rb = doB ss a := ⟨_, rfl⟩
            rw [← hx, ← hrb] at HDO
            have HX := Lib.hid hx
            have HRB := Lib.hid hrb
            clear hx hrb
            go_wp2_with fail
            refine HDO.out.mono ?_
            rintro e w5 ⟨clock', ss', rfl, t5, p5, f5⟩
            have B5 : Below w.heap.size w w5 := f5.bel HG.out.bel hpw hbw
            have u5 := HG.out.tb.framed HG.out.t2 hnp.out hnb.out f5
            obtain ⟨g', o', hgo, hg', hc5⟩ := (HR2.out.below B5).addr (by omega)
            cases hgo
            obtain ⟨d0, d1, d2, d3, hrd5, -, w15, -⟩ := hc5 i hia
            rw [← HA.out] at d0 d1 d2 d3 hrd5 w15
            have hdo := do_core HG.out.same a
            have HDO2 := Lib.hid (do_any w.heap.size p2 bb2 clock s2 a w5 u5 HG.out.inv2 B5.size (HE.out.below B5) hw0.out hrd5 w15 (by have := HG.out.ck; omega))
            rw [← hdo.1, ← hdo.2, ← HX.out, ← HRB.out] at HDO2
            have T5 := Lib.hid t5
            have P5 := Lib.hid p5
            have BB5 := Lib.hid B5
            have U5 := Lib.hid u5
            simp only [SV.D] at d3
            clear t5 p5 f5 B5 u5 hc5 hrd5 w15 hdo c0 c1 c2' c3'
            go_wp2_with fail
            refine HDO2.out.mono ?_
            rintro e w6 ⟨clock6, s6, rfl, t6, p6, f6⟩
            obtain ⟨e1, e2⟩ := doP_core HG.out.same P5.out p6
            subst e1
            have HG6 := Lib.hid (show GS w p b p2 bb2 w6 (100 + (i + 1)) clock' ss' s6 from by
              have hi5 := HG.out.inv.act P5.out W1.out W2.out
              exact ⟨U5.out.framed T5.out (fun e => hnp.out e.symm) (fun e => hnb.out e.symm) f6, t6, hi5, hi5.same (risS_of t6.2.2.2.1.1) e2, e2, by have := P5.out.clock; have := HG.out.ck; omega, f6.bel BB5.out hp2w.out hb2w.out⟩)
            have hxx : (x != x) = false := by simp
            have hrr : (rb != rb) = false := by simp
            have hcc : (clock' != clock') = false := by simp
            clear t6 p6 f6 e2 d0 d1 d2 d3
            go_wp2_with fail
            refine (clock_any _ p b clock' ss' w6 HG6.out.tb).mono ?_
            rintro e w6' ⟨rfl, rfl⟩
            go_wp2_with fail
            refine (clock_any _ p2 bb2 clock' s6 w6' HG6.out.t2).mono ?_
            rintro e w7 ⟨rfl, rfl⟩
            go_wp2_with fail
            refine (list_any w.heap.size p b clock' ss' w7 HG6.out.tb (by have := HG6.out.inv.len; omega)).mono ?_
            rintro e w8 ⟨v8, l8, rfl, lo8, b8⟩
            obtain ⟨A8, c8, rfl, -⟩ := lo8.shape
            have HG8 := Lib.hid (HG6.out.below b8)
            have R8 := Lib.hid (lo8.rs lo8.len)
            have L8 := Lib.hid lo8.len
            have S8 := Lib.hid lo8.same
            clear lo8 b8
            go_wp2_with fail
            refine (list_any w.heap.size p2 bb2 clock' s6 w8 HG8.out.t2 (by have := HG6.out.inv2.len; omega)).mono ?_
            rintro e w9 ⟨v9, l9, rfl, lo9, b9⟩
            obtain ⟨A9, c9, rfl, -⟩ := lo9.shape
            have HG9 := Lib.hid (HG8.out.below b9)
            have HSM := Lib.hid (same_any A8 A9 ss'.length s6.length c8 c9 l8 l9 w9 (R8.out.below b9) (lo9.rs lo9.len) L8.out lo9.len (by rw [S8.out, HG6.out.same, lo9.same]) (by have := HG6.out.inv.len; omega))
            clear lo9 b9
            go_wp2_with fail
            refine HSM.out.mono ?_
            rintro e w10 ⟨rfl, qd, rfl⟩
            have HG10 := Lib.hid (HG9.out.below (wr' := w9.drewN qd) ⟨rfl, rfl, rfl, Nat.le_refl _, fun _ _ => rfl⟩)
            go_wp2_with fail
            go_roundg (100 - (i + 1))
            case measure => omega
            case rel => exact ⟨i + 1, _, _, _, rfl, by omega, by go_num, HG10.out⟩
          · by_cases hi1 : i < n2
            · have hi1i : (i : Int) < (n2 : Int) := by omega
              have hi2i : ¬ (i : Int) < 100 := by omega
              clear hin
              go_wp2_with fail
              go_ret
              exact ⟨rfl, HG.out.bel⟩
            · have hi1i : ¬ (i : Int) < (n2 : Int) := by omega
              clear hin
              go_wp2_with fail
              go_ret
              exact ⟨rfl, HG.out.bel⟩
      · have hk1i : ¬ (k : Int) < (n : Int) := by omega
        clear hkn
        go_wp2_with fail
        refine HLS.out.mono ?_
        rintro e w3 ⟨v, ls, rfl, lo, b3⟩
        have HO3 := Lib.hid (HO.out.below b3)
        obtain ⟨A3, c3, rfl, hA3⟩ := lo.shape
        have HLO := Lib.hid lo
        clear lo b3 hA3
        go_wp2_with fail
        refine (clock_any _ p b clock ss w3 HO3.out.tb).mono ?_
        rintro e w3' ⟨rfl, rfl⟩
        have hgood : restOK clock ls := ⟨HO.out.inv.good.same HLO.out.same.symm, HO.out.inv.c0, by have := HO.out.ck; omega, by rw [HLO.out.len]; exact HO.out.inv.len⟩
        have HGD := Lib.hid hgood
        have HRS := Lib.hid (restore_any A3 ss.length c3 ls clock w3' (HLO.out.rs HLO.out.len) HLO.out.len (by have := HO.out.inv.len; omega) (fun s hs => by
          have hm : core s ∈ ss.map core := by rw [← HLO.out.same]; exact List.mem_map.2 ⟨s, hs, rfl⟩
          obtain ⟨t, ht, hc⟩ := List.mem_map.1 hm
          simp only [core, Prod.mk.injEq] at hc
          obtain ⟨e1, _, e3, _⟩ := hc
          obtain ⟨a1, a2, a3, a4, a5, a6, a7, a8⟩ := HO.out.inv.each t ht
          have := HO.out.ck
          rw [← e1, ← e3]
          exact ⟨a2, WalkArith.wf_i64 (by omega)⟩))
        clear hgood
        go_wp2_with fail
        refine HRS.out.mono ?_
        rintro e w4 ⟨b4, hres⟩
        obtain ⟨-, p2, bb2, s2, rfl, tb2, hs2⟩ | ⟨hno, -⟩ := hres
        rotate_left
        · exact absurd HGD.out hno
        have hp2 : w3'.heap.size ≤ p2 := tb2.1
        have hb2 : w3'.heap.size ≤ bb2 := tb2.2.1
        have hsz := HO3.out.bel.size
        have hpl := HO3.out.tb.plt
        have hbl := HO3.out.tb.2.2.2.1.lt
        have hnp := Lib.hid (show p2 ≠ p by omega)
        have hnb := Lib.hid (show bb2 ≠ b by omega)
        have hp2w := Lib.hid (show w.heap.size ≤ p2 by omega)
        have hb2w := Lib.hid (show w.heap.size ≤ bb2 by omega)
        have G0 := Lib.hid (show GS w p b p2 bb2 w4 100 clock ss s2 from by
          have hcs : ss.map core = s2.map core := by rw [hs2]; exact HLO.out.same.symm
          exact ⟨(HO3.out.below b4).tb, tb2.lower (by omega), HO.out.inv, HO.out.inv.same (risS_of tb2.2.2.2.1.1) hcs, hcs, by have := HO.out.ck; omega, (HO3.out.below b4).bel⟩)
        clear b4 tb2 hs2 hp2 hb2 hsz hpl hbl
        go_wp2_with fail
        go_loopg [10] 100 (fun q ki wr => ∃ (i : Nat) (clock : Int) (ss s2 : List SV), q = 100 - i ∧ i ≤ 100 ∧ ki = .int .i64 i ∧ GS w p b p2 bb2 wr (100 + i) clock ss s2)
        case atStart => exact ⟨0, _, _, _, rfl, by omega, rfl, G0.out⟩
        case round =>
          obtain ⟨i, clock, ss, s2, hq2, hi, rfl, G⟩ := hrel
          have HG := Lib.hid G
          clear G
          by_cases hin : i < n2 ∧ i < 100
          · obtain ⟨hi1, hi2⟩ := hin
            have hi1i : (i : Int) < (n2 : Int) := by omega
            have hi2i : (i : Int) < 100 := by omega
            have hia : i < mv.length := by rw [HL2.out]; exact hi1
            obtain ⟨g, o, rfl, hg, hc⟩ := (HR2.out.below HG.out.bel).addr (by omega)
            obtain ⟨c0, c1, c2', c3', hrd, w0', w1', w2'⟩ := hc i hia
            obtain ⟨a, ha⟩ : ∃ a, a = mv[i] := ⟨_, rfl⟩
            rw [← ha] at c0 c1 c2' c3' hrd w0' w1' w2'
            have HA := Lib.hid ha
            have HE3 := HE.out.below HG.out.bel
            have HDO := Lib.hid (do_any w.heap.size p b clock ss a wr HG.out.tb HG.out.inv HG.out.bel.size HE3 hw0.out hrd w1' (by have := HG.out.ck; omega))
            have W1 := Lib.hid w1'
            have W2 := Lib.hid w2'
            simp only [SV.D] at c3'
            clear hc hrd w0' w1' w2' ha HE3
            obtain ⟨x, hx⟩ : ∃ x, x = doN ss a := ⟨_, rfl⟩
            obtain ⟨rb, hrb⟩ : ∃ rb, rb = doB ss a := ⟨_, rfl⟩
            rw [← hx, ← hrb] at HDO
            have HX := Lib.hid hx
            have HRB := Lib.hid hrb
            clear hx hrb
            go_wp2_with fail
            refine HDO.out.mono ?_
            rintro e w5 ⟨clock', ss', rfl, t5, p5, f5⟩
            have B5 : Below w.heap.size w w5 := f5.bel HG.out.bel hpw hbw
            have u5 := HG.out.tb.framed HG.out.t2 hnp.out hnb.out f5
            obtain ⟨g', o', hgo, hg', hc5⟩ := (HR2.out.below B5).addr (by omega)
            cases hgo
            obtain ⟨d0, d1, d2, d3, hrd5, -, w15, -⟩ := hc5 i hia
            rw [← HA.out] at d0 d1 d2 d3 hrd5 w15
            have hdo := do_core HG.out.same a
            have HDO2 := Lib.hid (do_any w.heap.size p2 bb2 clock s2 a w5 u5 HG.out.inv2 B5.size (HE.out.below B5) hw0.out hrd5 w15 (by have := HG.out.ck; omega))
            rw [← hdo.1, ← hdo.2, ← HX.out, ← HRB.out] at HDO2
            have T5 := Lib.hid t5
            have P5 := Lib.hid p5
            have BB5 := Lib.hid B5
            have U5 := Lib.hid u5
            simp only [SV.D] at d3
            clear t5 p5 f5 B5 u5 hc5 hrd5 w15 hdo c0 c1 c2' c3'
            go_wp2_with fail
            refine HDO2.out.mono ?_
            rintro e w6 ⟨clock6, s6, rfl, t6, p6, f6⟩
            obtain ⟨e1, e2⟩ := doP_core HG.out.same P5.out p6
            subst e1
            have HG6 := Lib.hid (show GS w p b p2 bb2 w6 (100 + (i + 1)) clock' ss' s6 from by
              have hi5 := HG.out.inv.act P5.out W1.out W2.out
              exact ⟨U5.out.framed T5.out (fun e => hnp.out e.symm) (fun e => hnb.out e.symm) f6, t6, hi5, hi5.same (risS_of t6.2.2.2.1.1) e2, e2, by have := P5.out.clock; have := HG.out.ck; omega, f6.bel BB5.out hp2w.out hb2w.out⟩)
            have hxx : (x != x) = false := by simp
            have hrr : (rb != rb) = false := by simp
            have hcc : (clock' != clock') = false := by simp
            clear t6 p6 f6 e2 d0 d1 d2 d3
            go_wp2_with fail
            refine (clock_any _ p b clock' ss' w6 HG6.out.tb).mono ?_
            rintro e w6' ⟨rfl, rfl⟩
            go_wp2_with fail
            refine (clock_any _ p2 bb2 clock' s6 w6' HG6.out.t2).mono ?_
            rintro e w7 ⟨rfl, rfl⟩
            go_wp2_with fail
            refine (list_any w.heap.size p b clock' ss' w7 HG6.out.tb (by have := HG6.out.inv.len; omega)).mono ?_
            rintro e w8 ⟨v8, l8, rfl, lo8, b8⟩
            obtain ⟨A8, c8, rfl, -⟩ := lo8.shape
            have HG8 := Lib.hid (HG6.out.below b8)
            have R8 := Lib.hid (lo8.rs lo8.len)
            have L8 := Lib.hid lo8.len
            have S8 := Lib.hid lo8.same
            clear lo8 b8
            go_wp2_with fail
            refine (list_any w.heap.size p2 bb2 clock' s6 w8 HG8.out.t2 (by have := HG6.out.inv2.len; omega)).mono ?_
            rintro e w9 ⟨v9, l9, rfl, lo9, b9⟩
            obtain ⟨A9, c9, rfl, -⟩ := lo9.shape
            have HG9 := Lib.hid (HG8.out.below b9)
            have HSM := Lib.hid (same_any A8 A9 ss'.length s6.length c8 c9 l8 l9 w9 (R8.out.below b9) (lo9.rs lo9.len) L8.out lo9.len (by rw [S8.out, HG6.out.same, lo9.same]) (by have := HG6.out.inv.len; omega))
            clear lo9 b9
            go_wp2_with fail
            refine HSM.out.mono ?_
            rintro e w10 ⟨rfl, qd, rfl⟩
            have HG10 := Lib.hid (HG9.out.below (wr' := w9.drewN qd) ⟨rfl, rfl, rfl, Nat.le_refl _, fun _ _ => rfl⟩)
            go_wp2_with fail
            go_roundg (100 - (i + 1))
            case measure => omega
            case rel => exact ⟨i + 1, _, _, _, rfl, by omega, by go_num, HG10.out⟩
          · by_cases hi1 : i < n2
            · have hi1i : (i : Int) < (n2 : Int) := by omega
              have hi2i : ¬ (i : Int) < 100 := by omega
              clear hin
              go_wp2_with fail
              go_ret
              exact ⟨rfl, HG.out.bel⟩
            · have hi1i : ¬ (i : Int) < (n2 : Int) := by omega
              clear hin
              go_wp2_with fail
              go_ret
              exact ⟨rfl, HG.out.bel⟩

theorem sessionAgain_row (A : Option Addr) (c : Nat) (av : List SV) (A2 : Option Addr) (c2 : Nat) (mv : List SV) (w : World) (hl : av.length ≤ c) (hn : c * 48 ≤ 140737488351232) (hr : RA w A av) (hl2 : mv.length ≤ c2) (hn2 : c2 * 48 ≤ 140737488351232) (hr2 : RA w A2 mv) (hE : ErrT w) :
    Calls Tryd.prog 6 #[.slice A av.length c, .slice A2 mv.length c2] w fun e w' => e = .returned (.bool true) ∧ Below w.heap.size w w' :=
  sessionAgain_walk A _ c av A2 _ c2 mv w hE hr rfl (by omega) hr2 rfl (by omega)
end Go.Proofs.YtbdokphemdkhmaaDoor
