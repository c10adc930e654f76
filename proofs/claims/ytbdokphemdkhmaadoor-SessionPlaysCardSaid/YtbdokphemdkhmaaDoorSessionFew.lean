/- muntinlaw16.SessionFew: the walk. -/
import Derived.Test.YtbdokphemdkhmaaDoorSDo
set_option linter.unusedVariables false
set_option linter.unusedSimpArgs false
namespace Go.Proofs.YtbdokphemdkhmaaDoor
open Go.RowKit

/-- the cells of what List handed back -/
theorem LO.cells {w : World} {base g m c : Nat} {ss ls : List SV} (h : LO w base (.slice (some ⟨g, 0, none⟩) m c) ss ls) (hm : ls.length = m) :
    ∀ i (hi : i < ls.length), w.cell? ⟨g, i * 4, none⟩ = some (.int .i64 ls[i].i) ∧ w.cell? ⟨g, i * 4 + 1, none⟩ = some (.int .i64 ls[i].l) ∧ w.cell? ⟨g, i * 4 + 2, none⟩ = some (.int .i64 ls[i].u) ∧ w.cell? ⟨g, i * 4 + 3, none⟩ = some ls[i].D := by
  intro i hi
  have ho := h.own
  rw [hm] at ho
  obtain ⟨g', cap, cur, hv, hg, hb, h1, h2, h3, h4⟩ := row_at ho hm (by omega)
  cases hv
  obtain ⟨g0, g1, g2, g3⟩ := scells_get ls i hi
  have hx : ∀ j v, j < m * 4 → (scells ls)[j]? = some v → w.cell? ⟨g, j, none⟩ = some v := fun j v hj hv => by
    rw [← h4, List.getElem?_take_of_lt hj, Array.getElem?_toList] at hv
    rw [cell_of hb]; exact hv
  exact ⟨hx _ _ (by omega) g0, hx _ _ (by omega) g1, hx _ _ (by omega) g2, hx _ _ (by omega) g3⟩
theorem LO.len {w : World} {base : Nat} {v : Value} {ss ls : List SV} (h : LO w base v ss ls) : ls.length = ss.length := by
  have := congrArg List.length h.same
  simpa using this
theorem LO.shape {w : World} {base : Nat} {v : Value} {ss ls : List SV} (h : LO w base v ss ls) : ∃ A c, v = .slice A ss.length c ∧ (0 < ss.length → ∃ g, A = some ⟨g, 0, none⟩ ∧ base ≤ g ∧ g < w.heap.size) := by
  obtain ⟨A, c, hv, -⟩ := own_shape h.own
  rw [h.len] at hv
  refine ⟨A, c, hv, fun h0 => ?_⟩
  have ho := h.own
  rw [h.len] at ho
  obtain ⟨g, cap, cur, hv2, hg, hb, -⟩ := row_at ho h.len h0
  rw [hv2] at hv
  cases hv
  exact ⟨g, rfl, hg, (Array.getElem?_eq_some_iff.1 hb).1⟩
theorem LO.ris {w : World} {base : Nat} {v : Value} {ss ls : List SV} (h : LO w base v ss ls) (hr : risS ss) : risS ls := by
  have e : ls.map (·.i) = ss.map (·.i) := by
    have := congrArg (List.map Prod.fst) h.same
    simpa [core, Function.comp_def] using this
  unfold risS at hr ⊢
  rw [← List.pairwise_map (f := fun s : SV => s.i) (R := (· < ·)), e, List.pairwise_map]
  exact hr
theorem LO.min {w : World} {base : Nat} {v : Value} {ss ls : List SV} (h : LO w base v ss ls) : (minS ls).i = (minS ss).i := congrArg Prod.fst (minS_core h.same)

/-- the law's loop, under way -/
structure FS (w : World) (p b : Nat) (wr : World) (k : Nat) (clock : Int) (ss : List SV) : Prop where
  tb : TB wr w.heap.size p b clock ss
  inv : Inv clock ss
  ck : clock ≤ k
  bel : Below w.heap.size w wr
theorem FS.below {w : World} {p b : Nat} {wr wr' : World} {k : Nat} {clock : Int} {ss : List SV} (h : FS w p b wr k clock ss) (hb : Below wr.heap.size wr wr') : FS w p b wr' k clock ss :=
  ⟨h.tb.below hb, h.inv, h.ck, below_then h.bel h.bel.size hb⟩

/-- the least one of a first part -/
def LeastP (ls : List SV) (i j : Nat) : Prop := match ls with
  | [] => j = 0
  | x :: rest => ∃ hj : j < (x :: rest).length, (x :: rest)[j] = pickU x (rest.take (i - 1))
theorem least_start (ls : List SV) : LeastP ls 0 0 := by
  cases ls with
  | nil => rfl
  | cons x rest => exact ⟨by simp, by simp [pickU]⟩
theorem least_lt {ls : List SV} {i j : Nat} (h : LeastP ls i j) (h0 : 0 < ls.length) : j < ls.length := by
  cases ls with
  | nil => simp at h0
  | cons x rest => exact h.1
theorem least_step {ls : List SV} {i j : Nat} (h : LeastP ls i j) (hi : i < ls.length) (hj : j < ls.length) : LeastP ls (i + 1) (if ls[i].u < ls[j].u then i else j) := by
  cases ls with
  | nil => simp at hi
  | cons x rest =>
    obtain ⟨h1, h2⟩ := h
    by_cases h0 : i = 0
    · subst h0
      simp only [List.take_zero, Nat.zero_sub, pickU] at h2
      rw [h2]
      simp only [List.getElem_cons_zero, Int.lt_irrefl, ↓reduceIte]
      exact ⟨h1, by simpa [pickU] using h2⟩
    · have ht := take_step (x := x) (rest := rest) (y := (x :: rest)[i]) (show 1 ≤ i by omega) hi rfl
      rw [← h2] at ht
      by_cases hlt : ((x :: rest)[i]).u < ((x :: rest)[j]).u
      · rw [if_pos hlt]
        rw [if_pos hlt] at ht
        exact ⟨hi, ht.symm⟩
      · rw [if_neg hlt]
        rw [if_neg hlt] at ht
        exact ⟨hj, ht.symm⟩
theorem least_end {ls : List SV} {j : Nat} (h : LeastP ls ls.length j) (hj : j < ls.length) : ls[j] = minS ls := by
  cases ls with
  | nil => simp at hj
  | cons x rest =>
    obtain ⟨h1, h2⟩ := h
    rw [h2]
    simp only [minS, List.length_cons, Nat.add_sub_cancel, List.take_length]
theorem FS.drewN {w : World} {p b : Nat} {wr : World} {k : Nat} {clock : Int} {ss : List SV} (h : FS w p b wr k clock ss) (m : Nat) : FS w p b (wr.drewN m) k clock ss :=
  ⟨h.tb.step fun k _ => rfl, h.inv, h.ck, ⟨h.bel.os, h.bel.tape, h.bel.output, h.bel.size, h.bel.block⟩⟩
theorem LO.framed {w w' : World} {base p b base' : Nat} {clock : Int} {ss0 ss ls : List SV} {v : Value} (h : LO w base v ss ls) (t : TB w base' p b clock ss0) (f : Frm (fun k => k = p ∨ k = b) w w') : ∀ k, v.ownBlock = some k → w'.heap[k]? = w.heap[k]? := by
  intro k hk
  refine f.block k (h.own.lt k hk).2 ?_
  rcases h.own.2 with ⟨rfl, _⟩ | ⟨g, cap, cur, rfl, _, hg, _⟩
  · simp [Value.ownBlock] at hk
  · simp [Value.ownBlock] at hk
    subst hk
    rintro (e | e)
    · subst e
      rw [t.2.2.1] at hg
      injection hg with hg
      injection hg with _ ht
      exact absurd ht (by decide)
    · subst e
      obtain ⟨_, _, _, ⟨_, _, _, h2, _⟩, _⟩ := t
      rw [h2] at hg
      cases hg

set_option maxRecDepth 100000 in
set_option maxHeartbeats 4000000 in
theorem sessionFew_walk (A : Option Addr) (n c : Nat) (av : List SV) (w : World) (hE : ErrT w) (hr : RA w A av) (hl : av.length = n) (hn : n ≤ 10000000000000) :
    Calls Tryd.prog 4 #[.slice A n c] w fun e w' => e = .returned (.bool true) ∧ Below w.heap.size w w' := by
  have HS := Lib.hid (small_any w hE)
  have HR := Lib.hid hr
  have HL := Lib.hid hl
  have HE := Lib.hid hE
  have hw0 := Lib.hid (Nat.lt_of_le_of_lt (Nat.zero_le _) (World.block_lt_of_cell? _ _ hE))
  clear hr hl hE
  go_enter Tryd.func4, Tryd.ntmps4
  go_wp2_with fail
  refine HS.out.mono ?_
  rintro e w1 ⟨rfl, b1⟩
  have HB1 := Lib.hid b1
  clear b1
  go_wp2_with fail
  refine (new_any w1).mono ?_
  rintro e w2 ⟨p, b, rfl, t2, b2⟩
  have hpw : w.heap.size ≤ p := Nat.le_trans HB1.out.size t2.1
  have hbw : w.heap.size ≤ b := Nat.le_trans HB1.out.size t2.2.1
  have H0 := Lib.hid (show FS w p b w2 0 0 [] from ⟨⟨hpw, hbw, t2.2.2.1, t2.2.2.2.1, by simp⟩, Inv.new, by simp, below_then HB1.out HB1.out.size b2⟩)
  clear t2 b2
  go_wp2_with fail
  go_loopg [5] 200 (fun q ki wr => ∃ (k : Nat) (clock : Int) (ss : List SV), q = 200 - k ∧ k ≤ 200 ∧ ki = .int .i64 k ∧ FS w p b wr k clock ss)
  case atStart => exact ⟨0, 0, [], rfl, by omega, rfl, H0.out⟩
  case round =>
    obtain ⟨k, clock, ss, hq, hk, rfl, O⟩ := hrel
    have HO := Lib.hid O
    clear O
    by_cases hkn : k < n ∧ k < 200
    · obtain ⟨hk1, hk2⟩ := hkn
      have hk1i : (k : Int) < (n : Int) := by omega
      have hk2i : (k : Int) < 200 := by omega
      have hka : k < av.length := by rw [HL.out]; exact hk1
      have HLS := Lib.hid (list_any w.heap.size p b clock ss wr HO.out.tb (by have := HO.out.inv.len; omega))
      obtain ⟨wo, hwo⟩ : ∃ wo : World, wo = wr := ⟨_, rfl⟩
      go_wp2_with fail
      refine HLS.out.mono ?_
      rintro e w3 ⟨v, ls, rfl, lo, b3⟩
      have HO3 := Lib.hid (HO.out.below b3)
      obtain ⟨A3, c3, rfl, hA3⟩ := lo.shape
      have HLO := Lib.hid lo
      have HA3 := Lib.hid hA3
      have HE3 := Lib.hid (HE.out.below HO3.out.bel)
      obtain ⟨g, o, hAA, hg, hc⟩ := (HR.out.below HO3.out.bel).addr (by omega)
      subst hAA
      obtain ⟨c0, c1, c2, c3', hrd, w0', w1', w2'⟩ := hc k hka
      obtain ⟨a, ha⟩ : ∃ a, a = av[k] := ⟨_, rfl⟩
      rw [← ha] at c0 c1 c2 c3' hrd w0' w1' w2'
      simp only [SV.D] at c3'
      have HRD := Lib.hid hrd
      have W1 := Lib.hid w1'
      have W2 := Lib.hid w2'
      have hck := Lib.hid (show clock ≤ 4611686018427400000 by have := HO.out.ck; omega)
      clear hc hrd w0' w1' w2' ha lo b3 hA3 hwo
      by_cases hd0 : a.i = 0
      · have hd : (a.i != 0) = false := by simp [hd0]
        have HOP := Lib.hid (open_any w.heap.size p b clock ss a.l w3 HO3.out.tb HO3.out.bel.size W1.out HO.out.inv.c0 hck.out (by have := HO.out.inv.len; omega) (fun s hs => (HO.out.inv.each s hs).2.1))
        clear hd0
        by_cases he : openE ss a.l = 0
        · rw [he] at HOP
          have HEE := Lib.hid he
          clear he
          go_wp2_with fail
          refine HOP.out.mono ?_
          rintro e w4 ⟨gone, clock', ss', rfl, t4, p4, f4⟩
          rw [errV_zero]
          obtain rfl : gone = goneI ss := by
            rcases p4 with ⟨h, _⟩ | ⟨_, h, _⟩
            · exact absurd HEE.out h
            · exact h
          have HF4 := Lib.hid (show FS w p b w4 (k + 1) clock' ss' from ⟨t4, HO.out.inv.open_ p4 W1.out, by have := p4.clock; have := HO.out.ck; omega, f4.bel HO3.out.bel hpw hbw⟩)
          have HBL := Lib.hid (HLO.out.framed HO3.out.tb f4)
          clear t4 p4 f4
          go_wp2_with fail
          have hss8 := HO.out.inv.len
          go_loopg [9, 10] ss.length (fun q li ki wr => ∃ (i j : Nat), q = ss.length - i ∧ i ≤ ss.length ∧ ki = .int .i64 i ∧ li = .int .i64 j ∧ Hid (LeastP ls i j) ∧ ∃ qd, wr = w4.drewN qd)
          case atStart => exact ⟨0, 0, rfl, by omega, rfl, rfl, Lib.hid (least_start _), 0, rfl⟩
          case round =>
            obtain ⟨i, j, hq2, hi, rfl, rfl, HP, qd, rfl⟩ := hrel
            by_cases him : i < ss.length
            · have him1 : (i : Int) < (ss.length : Int) := by omega
              obtain ⟨g3, hA, -⟩ := HA3.out (by omega)
              subst hA
              have hl3 := HLO.out.len
              have hjm := least_lt HP.out (by omega)
              have hjm1 : (j : Int) < (ss.length : Int) := by omega
              have hcs := HLO.out.cells hl3
              obtain ⟨-, -, x0, -⟩ := hcs i (by omega)
              obtain ⟨-, -, y0, -⟩ := hcs j hjm
              have hst := Lib.hid (least_step HP.out (show i < ls.length by omega) hjm)
              obtain ⟨u, hu⟩ : ∃ u, u = (ls[i]'(by omega)).u := ⟨_, rfl⟩
              obtain ⟨v, hv⟩ : ∃ v, v = (ls[j]'hjm).u := ⟨_, rfl⟩
              rw [← hu] at x0 hst
              rw [← hv] at y0 hst
              have hcell : ∀ (off : Nat) (y : Value), w3.cell? ⟨g3, off, none⟩ = some y → w4.cell? ⟨g3, off, none⟩ = some y := fun off y h => (World.cell?_of_block (w := w3) (HBL.out g3 rfl)).trans h
              have x1 : ∀ m, (w4.drewN m).cell? ⟨g3, i * 4 + 2, none⟩ = some (.int .i64 u) := fun m => hcell _ _ x0
              have y1 : ∀ m, (w4.drewN m).cell? ⟨g3, j * 4 + 2, none⟩ = some (.int .i64 v) := fun m => hcell _ _ y0
              clear hcs x0 y0 hu hv hl3 hjm hcell
              by_cases huv : u < v
              · rw [if_pos huv] at hst
                go_wp2_with fail
                go_quiet (fail)
                clear x1 y1
                go_wp2_with fail
                go_roundg (ss.length - (i + 1))
                case measure => omega
                case rel => exact ⟨i + 1, i, rfl, by omega, by go_num, rfl, hst, _, rfl⟩
              · rw [if_neg huv] at hst
                go_wp2_with fail
                go_quiet (fail)
                clear x1 y1
                go_wp2_with fail
                go_roundg (ss.length - (i + 1))
                case measure => omega
                case rel => exact ⟨i + 1, j, rfl, by omega, by go_num, rfl, hst, _, rfl⟩
            · obtain rfl : i = ss.length := by omega
              have HFD := Lib.hid (HF4.out.drewN qd)
              by_cases h8 : ss.length = 8
              · have hg8 : goneI ss = (minS ss).i := by simp [goneI, h8]
                obtain ⟨g3, hA, -⟩ := HA3.out (by omega)
                subst hA
                have hl3 := HLO.out.len
                have hjm : j < ls.length := least_lt HP.out (by omega)
                have hjm1 : (j : Int) < (ss.length : Int) := by omega
                have hend : ls[j] = minS ls := least_end (by rw [hl3]; exact HP.out) hjm
                obtain ⟨x0, -⟩ := HLO.out.cells hl3 j hjm
                rw [hend, HLO.out.min, ← hg8] at x0
                have x1 : (w4.drewN qd).cell? ⟨g3, j * 4, none⟩ = some (.int .i64 (goneI ss)) := (World.cell?_of_block (w := w3) (HBL.out g3 rfl)).trans x0
                have hpos := (HO.out.inv.each _ (minS_mem (ss := ss) (by omega))).1
                rw [← hg8] at hpos
                obtain ⟨γ, hγ⟩ : ∃ γ, γ = goneI ss := ⟨_, rfl⟩
                rw [← hγ] at x1 hpos
                rw [← hγ]
                have hb1 : (γ != 0) = true := by simp; omega
                have hb2 : ((ss.length : Int) == 8) = true := by rw [h8]; rfl
                have hb3 : (γ != γ) = false := by simp
                clear hg8 hl3 hend x0 hpos hγ hjm h8
                have HL5 := Lib.hid (list_any w.heap.size p b clock' ss' (w4.drewN qd) HFD.out.tb (by have := HFD.out.inv.len; omega))
                go_wp2_with fail
                refine HL5.out.mono ?_
                rintro e w5 ⟨v5, ls5, rfl, lo5, b5⟩
                obtain ⟨A5, c5, rfl, hA5⟩ := lo5.shape
                have HF5 := Lib.hid (HFD.out.below b5)
                have HLO5 := Lib.hid lo5
                have HA5 := Lib.hid hA5
                have hn8 : ¬ (8 : Int) < (ss'.length : Int) := by have := HFD.out.inv.len; omega
                clear lo5 b5 hA5
                go_wp2_with fail
                go_loopg [12] (ss'.length - 1) (fun q ki wr => ∃ (j : Nat), q = ss'.length - (j + 1) ∧ (j + 1 ≤ ss'.length ∨ j = 0) ∧ ki = .int .i64 ((j + 1 : Nat) : Int) ∧ ∃ qd, wr = w5.drewN qd)
                case atStart => exact ⟨0, by omega, .inr rfl, rfl, 0, rfl⟩
                case round =>
                  obtain ⟨j, hq3, hj, rfl, qd, rfl⟩ := hrel
                  by_cases hjm : j + 1 < ss'.length
                  · have hji : ((j + 1 : Nat) : Int) < (ss'.length : Int) := by omega
                    obtain ⟨g5, hA, -⟩ := HA5.out (by omega)
                    subst hA
                    have hcs := HLO5.out.cells HLO5.out.len
                    have hl5 := HLO5.out.len
                    obtain ⟨x0, -⟩ := hcs (j + 1) (by omega)
                    obtain ⟨y0, -⟩ := hcs j (by omega)
                    have hlt := List.pairwise_iff_getElem.1 (HLO5.out.ris HF5.out.inv.ris) j (j + 1) (by omega) (by omega) (by omega)
                    obtain ⟨u, hu⟩ : ∃ u, u = (ls5[j + 1]'(by omega)).i := ⟨_, rfl⟩
                    obtain ⟨v, hv⟩ : ∃ v, v = (ls5[j]'(by omega)).i := ⟨_, rfl⟩
                    rw [← hu] at x0 hlt
                    rw [← hv] at y0 hlt
                    have x1 : ∀ m, (w5.drewN m).cell? ⟨g5, (j + 1) * 4, none⟩ = some (.int .i64 u) := fun m => x0
                    have y1 : ∀ m, (w5.drewN m).cell? ⟨g5, j * 4, none⟩ = some (.int .i64 v) := fun m => y0
                    have s2 : IntKind.i64.wrap (((j + 1 : Nat) : Int) - 1) = (j : Int) := (IntWalk.i64_in (((j + 1 : Nat) : Int) - 1) (by have := HF5.out.inv.len; omega)).trans (by omega)
                    have hji2 : (j : Int) < (ss'.length : Int) := by omega
                    have hle : ¬ u ≤ v := by omega
                    clear hcs x0 y0 hlt hu hv hl5
                    go_wp2_with fail
                    go_quiet (fail)
                    clear x1 y1 s2
                    go_wp2_with fail
                    go_roundg (ss'.length - (j + 1 + 1))
                    case measure => omega
                    case rel => exact ⟨j + 1, rfl, .inl (by omega), by go_num, _, rfl⟩
                  · have hji : ¬ ((j + 1 : Nat) : Int) < (ss'.length : Int) := by omega
                    have HFX := Lib.hid (HF5.out.drewN qd)
                    go_wp2_with fail
                    go_roundg (200 - (k + 1))
                    case measure => omega
                    case rel => exact ⟨k + 1, clock', ss', rfl, by omega, by go_num, HFX.out⟩
              · have hg8 : goneI ss = 0 := by simp only [goneI]; rw [if_neg (by have := HO.out.inv.len; omega)]
                rw [hg8]
                have hb2 : ((ss.length : Int) == 8) = false := by simp; omega
                clear hg8
                have HL5 := Lib.hid (list_any w.heap.size p b clock' ss' (w4.drewN qd) HFD.out.tb (by have := HFD.out.inv.len; omega))
                go_wp2_with fail
                refine HL5.out.mono ?_
                rintro e w5 ⟨v5, ls5, rfl, lo5, b5⟩
                obtain ⟨A5, c5, rfl, hA5⟩ := lo5.shape
                have HF5 := Lib.hid (HFD.out.below b5)
                have HLO5 := Lib.hid lo5
                have HA5 := Lib.hid hA5
                have hn8 : ¬ (8 : Int) < (ss'.length : Int) := by have := HFD.out.inv.len; omega
                clear lo5 b5 hA5
                go_wp2_with fail
                go_loopg [12] (ss'.length - 1) (fun q ki wr => ∃ (j : Nat), q = ss'.length - (j + 1) ∧ (j + 1 ≤ ss'.length ∨ j = 0) ∧ ki = .int .i64 ((j + 1 : Nat) : Int) ∧ ∃ qd, wr = w5.drewN qd)
                case atStart => exact ⟨0, by omega, .inr rfl, rfl, 0, rfl⟩
                case round =>
                  obtain ⟨j, hq3, hj, rfl, qd, rfl⟩ := hrel
                  by_cases hjm : j + 1 < ss'.length
                  · have hji : ((j + 1 : Nat) : Int) < (ss'.length : Int) := by omega
                    obtain ⟨g5, hA, -⟩ := HA5.out (by omega)
                    subst hA
                    have hcs := HLO5.out.cells HLO5.out.len
                    have hl5 := HLO5.out.len
                    obtain ⟨x0, -⟩ := hcs (j + 1) (by omega)
                    obtain ⟨y0, -⟩ := hcs j (by omega)
                    have hlt := List.pairwise_iff_getElem.1 (HLO5.out.ris HF5.out.inv.ris) j (j + 1) (by omega) (by omega) (by omega)
                    obtain ⟨u, hu⟩ : ∃ u, u = (ls5[j + 1]'(by omega)).i := ⟨_, rfl⟩
                    obtain ⟨v, hv⟩ : ∃ v, v = (ls5[j]'(by omega)).i := ⟨_, rfl⟩
                    rw [← hu] at x0 hlt
                    rw [← hv] at y0 hlt
                    have x1 : ∀ m, (w5.drewN m).cell? ⟨g5, (j + 1) * 4, none⟩ = some (.int .i64 u) := fun m => x0
                    have y1 : ∀ m, (w5.drewN m).cell? ⟨g5, j * 4, none⟩ = some (.int .i64 v) := fun m => y0
                    have s2 : IntKind.i64.wrap (((j + 1 : Nat) : Int) - 1) = (j : Int) := (IntWalk.i64_in (((j + 1 : Nat) : Int) - 1) (by have := HF5.out.inv.len; omega)).trans (by omega)
                    have hji2 : (j : Int) < (ss'.length : Int) := by omega
                    have hle : ¬ u ≤ v := by omega
                    clear hcs x0 y0 hlt hu hv hl5
                    go_wp2_with fail
                    go_quiet (fail)
                    clear x1 y1 s2
                    go_wp2_with fail
                    go_roundg (ss'.length - (j + 1 + 1))
                    case measure => omega
                    case rel => exact ⟨j + 1, rfl, .inl (by omega), by go_num, _, rfl⟩
                  · have hji : ¬ ((j + 1 : Nat) : Int) < (ss'.length : Int) := by omega
                    have HFX := Lib.hid (HF5.out.drewN qd)
                    go_wp2_with fail
                    go_roundg (200 - (k + 1))
                    case measure => omega
                    case rel => exact ⟨k + 1, clock', ss', rfl, by omega, by go_num, HFX.out⟩
        · rw [openE_one he, errV_pos 1 (by decide)] at HOP
          have HEE := Lib.hid he
          clear he
          go_wp2_with fail
          refine HOP.out.mono ?_
          rintro e w4 ⟨gone, clock', ss', rfl, t4, p4, f4⟩
          obtain rfl : gone = 0 := by
            rcases p4 with ⟨_, h, _⟩ | ⟨h, _⟩
            · exact h
            · exact absurd h HEE.out
          have HF4 := Lib.hid (show FS w p b w4 (k + 1) clock' ss' from ⟨t4, HO.out.inv.open_ p4 W1.out, by have := p4.clock; have := HO.out.ck; omega, f4.bel HO3.out.bel hpw hbw⟩)
          have HBL := Lib.hid (HLO.out.framed HO3.out.tb f4)
          clear t4 p4 f4
          go_wp2_with fail
          have hss8 := HO.out.inv.len
          go_loopg [9, 10] ss.length (fun q li ki wr => ∃ (i j : Nat), q = ss.length - i ∧ i ≤ ss.length ∧ ki = .int .i64 i ∧ li = .int .i64 j ∧ Hid (LeastP ls i j) ∧ ∃ qd, wr = w4.drewN qd)
          case atStart => exact ⟨0, 0, rfl, by omega, rfl, rfl, Lib.hid (least_start _), 0, rfl⟩
          case round =>
            obtain ⟨i, j, hq2, hi, rfl, rfl, HP, qd, rfl⟩ := hrel
            by_cases him : i < ss.length
            · have him1 : (i : Int) < (ss.length : Int) := by omega
              obtain ⟨g3, hA, -⟩ := HA3.out (by omega)
              subst hA
              have hl3 := HLO.out.len
              have hjm := least_lt HP.out (by omega)
              have hjm1 : (j : Int) < (ss.length : Int) := by omega
              have hcs := HLO.out.cells hl3
              obtain ⟨-, -, x0, -⟩ := hcs i (by omega)
              obtain ⟨-, -, y0, -⟩ := hcs j hjm
              have hst := Lib.hid (least_step HP.out (show i < ls.length by omega) hjm)
              obtain ⟨u, hu⟩ : ∃ u, u = (ls[i]'(by omega)).u := ⟨_, rfl⟩
              obtain ⟨v, hv⟩ : ∃ v, v = (ls[j]'hjm).u := ⟨_, rfl⟩
              rw [← hu] at x0 hst
              rw [← hv] at y0 hst
              have hcell : ∀ (off : Nat) (y : Value), w3.cell? ⟨g3, off, none⟩ = some y → w4.cell? ⟨g3, off, none⟩ = some y := fun off y h => (World.cell?_of_block (w := w3) (HBL.out g3 rfl)).trans h
              have x1 : ∀ m, (w4.drewN m).cell? ⟨g3, i * 4 + 2, none⟩ = some (.int .i64 u) := fun m => hcell _ _ x0
              have y1 : ∀ m, (w4.drewN m).cell? ⟨g3, j * 4 + 2, none⟩ = some (.int .i64 v) := fun m => hcell _ _ y0
              clear hcs x0 y0 hu hv hl3 hjm hcell
              by_cases huv : u < v
              · rw [if_pos huv] at hst
                go_wp2_with fail
                go_quiet (fail)
                clear x1 y1
                go_wp2_with fail
                go_roundg (ss.length - (i + 1))
                case measure => omega
                case rel => exact ⟨i + 1, i, rfl, by omega, by go_num, rfl, hst, _, rfl⟩
              · rw [if_neg huv] at hst
                go_wp2_with fail
                go_quiet (fail)
                clear x1 y1
                go_wp2_with fail
                go_roundg (ss.length - (i + 1))
                case measure => omega
                case rel => exact ⟨i + 1, j, rfl, by omega, by go_num, rfl, hst, _, rfl⟩
            · obtain rfl : i = ss.length := by omega
              have HFD := Lib.hid (HF4.out.drewN qd)
              have HL5 := Lib.hid (list_any w.heap.size p b clock' ss' (w4.drewN qd) HFD.out.tb (by have := HFD.out.inv.len; omega))
              go_wp2_with fail
              refine HL5.out.mono ?_
              rintro e w5 ⟨v5, ls5, rfl, lo5, b5⟩
              obtain ⟨A5, c5, rfl, hA5⟩ := lo5.shape
              have HF5 := Lib.hid (HFD.out.below b5)
              have HLO5 := Lib.hid lo5
              have HA5 := Lib.hid hA5
              have hn8 : ¬ (8 : Int) < (ss'.length : Int) := by have := HFD.out.inv.len; omega
              clear lo5 b5 hA5
              go_wp2_with fail
              go_loopg [12] (ss'.length - 1) (fun q ki wr => ∃ (j : Nat), q = ss'.length - (j + 1) ∧ (j + 1 ≤ ss'.length ∨ j = 0) ∧ ki = .int .i64 ((j + 1 : Nat) : Int) ∧ ∃ qd, wr = w5.drewN qd)
              case atStart => exact ⟨0, by omega, .inr rfl, rfl, 0, rfl⟩
              case round =>
                obtain ⟨j, hq3, hj, rfl, qd, rfl⟩ := hrel
                by_cases hjm : j + 1 < ss'.length
                · have hji : ((j + 1 : Nat) : Int) < (ss'.length : Int) := by omega
                  obtain ⟨g5, hA, -⟩ := HA5.out (by omega)
                  subst hA
                  have hcs := HLO5.out.cells HLO5.out.len
                  have hl5 := HLO5.out.len
                  obtain ⟨x0, -⟩ := hcs (j + 1) (by omega)
                  obtain ⟨y0, -⟩ := hcs j (by omega)
                  have hlt := List.pairwise_iff_getElem.1 (HLO5.out.ris HF5.out.inv.ris) j (j + 1) (by omega) (by omega) (by omega)
                  obtain ⟨u, hu⟩ : ∃ u, u = (ls5[j + 1]'(by omega)).i := ⟨_, rfl⟩
                  obtain ⟨v, hv⟩ : ∃ v, v = (ls5[j]'(by omega)).i := ⟨_, rfl⟩
                  rw [← hu] at x0 hlt
                  rw [← hv] at y0 hlt
                  have x1 : ∀ m, (w5.drewN m).cell? ⟨g5, (j + 1) * 4, none⟩ = some (.int .i64 u) := fun m => x0
                  have y1 : ∀ m, (w5.drewN m).cell? ⟨g5, j * 4, none⟩ = some (.int .i64 v) := fun m => y0
                  have s2 : IntKind.i64.wrap (((j + 1 : Nat) : Int) - 1) = (j : Int) := (IntWalk.i64_in (((j + 1 : Nat) : Int) - 1) (by have := HF5.out.inv.len; omega)).trans (by omega)
                  have hji2 : (j : Int) < (ss'.length : Int) := by omega
                  have hle : ¬ u ≤ v := by omega
                  clear hcs x0 y0 hlt hu hv hl5
                  go_wp2_with fail
                  go_quiet (fail)
                  clear x1 y1 s2
                  go_wp2_with fail
                  go_roundg (ss'.length - (j + 1 + 1))
                  case measure => omega
                  case rel => exact ⟨j + 1, rfl, .inl (by omega), by go_num, _, rfl⟩
                · have hji : ¬ ((j + 1 : Nat) : Int) < (ss'.length : Int) := by omega
                  have HFX := Lib.hid (HF5.out.drewN qd)
                  go_wp2_with fail
                  go_roundg (200 - (k + 1))
                  case measure => omega
                  case rel => exact ⟨k + 1, clock', ss', rfl, by omega, by go_num, HFX.out⟩
      · have hd : (a.i != 0) = true := by simp [hd0]
        have HDO := Lib.hid (do_any w.heap.size p b clock ss a w3 HO3.out.tb HO.out.inv HO3.out.bel.size HE3.out hw0.out HRD.out W1.out hck.out)
        clear hd0
        go_wp2_with fail
        refine HDO.out.mono ?_
        rintro e w4 ⟨clock', ss', rfl, t4, p4, f4⟩
        have HF4 := Lib.hid (show FS w p b w4 (k + 1) clock' ss' from ⟨t4, HO.out.inv.act p4 W1.out W2.out, by have := p4.clock; have := HO.out.ck; omega, f4.bel HO3.out.bel hpw hbw⟩)
        clear t4 p4 f4
        have HL5 := Lib.hid (list_any w.heap.size p b clock' ss' (w4) HF4.out.tb (by have := HF4.out.inv.len; omega))
        go_wp2_with fail
        refine HL5.out.mono ?_
        rintro e w5 ⟨v5, ls5, rfl, lo5, b5⟩
        obtain ⟨A5, c5, rfl, hA5⟩ := lo5.shape
        have HF5 := Lib.hid (HF4.out.below b5)
        have HLO5 := Lib.hid lo5
        have HA5 := Lib.hid hA5
        have hn8 : ¬ (8 : Int) < (ss'.length : Int) := by have := HF4.out.inv.len; omega
        clear lo5 b5 hA5
        go_wp2_with fail
        go_loopg [12] (ss'.length - 1) (fun q ki wr => ∃ (j : Nat), q = ss'.length - (j + 1) ∧ (j + 1 ≤ ss'.length ∨ j = 0) ∧ ki = .int .i64 ((j + 1 : Nat) : Int) ∧ ∃ qd, wr = w5.drewN qd)
        case atStart => exact ⟨0, by omega, .inr rfl, rfl, 0, rfl⟩
        case round =>
          obtain ⟨j, hq3, hj, rfl, qd, rfl⟩ := hrel
          by_cases hjm : j + 1 < ss'.length
          · have hji : ((j + 1 : Nat) : Int) < (ss'.length : Int) := by omega
            obtain ⟨g5, hA, -⟩ := HA5.out (by omega)
            subst hA
            have hcs := HLO5.out.cells HLO5.out.len
            have hl5 := HLO5.out.len
            obtain ⟨x0, -⟩ := hcs (j + 1) (by omega)
            obtain ⟨y0, -⟩ := hcs j (by omega)
            have hlt := List.pairwise_iff_getElem.1 (HLO5.out.ris HF5.out.inv.ris) j (j + 1) (by omega) (by omega) (by omega)
            obtain ⟨u, hu⟩ : ∃ u, u = (ls5[j + 1]'(by omega)).i := ⟨_, rfl⟩
            obtain ⟨v, hv⟩ : ∃ v, v = (ls5[j]'(by omega)).i := ⟨_, rfl⟩
            rw [← hu] at x0 hlt
            rw [← hv] at y0 hlt
            have x1 : ∀ m, (w5.drewN m).cell? ⟨g5, (j + 1) * 4, none⟩ = some (.int .i64 u) := fun m => x0
            have y1 : ∀ m, (w5.drewN m).cell? ⟨g5, j * 4, none⟩ = some (.int .i64 v) := fun m => y0
            have s2 : IntKind.i64.wrap (((j + 1 : Nat) : Int) - 1) = (j : Int) := (IntWalk.i64_in (((j + 1 : Nat) : Int) - 1) (by have := HF5.out.inv.len; omega)).trans (by omega)
            have hji2 : (j : Int) < (ss'.length : Int) := by omega
            have hle : ¬ u ≤ v := by omega
            clear hcs x0 y0 hlt hu hv hl5
            go_wp2_with fail
            go_quiet (fail)
            clear x1 y1 s2
            go_wp2_with fail
            go_roundg (ss'.length - (j + 1 + 1))
            case measure => omega
            case rel => exact ⟨j + 1, rfl, .inl (by omega), by go_num, _, rfl⟩
          · have hji : ¬ ((j + 1 : Nat) : Int) < (ss'.length : Int) := by omega
            have HFX := Lib.hid (HF5.out.drewN qd)
            go_wp2_with fail
            go_roundg (200 - (k + 1))
            case measure => omega
            case rel => exact ⟨k + 1, clock', ss', rfl, by omega, by go_num, HFX.out⟩
    · by_cases hk1 : k < n
      · have hk1i : (k : Int) < (n : Int) := by omega
        have hk2i : ¬ (k : Int) < 200 := by omega
        go_wp2_with fail
        go_ret
        exact ⟨rfl, HO.out.bel⟩
      · have hk1i : ¬ (k : Int) < (n : Int) := by omega
        go_wp2_with fail
        go_ret
        exact ⟨rfl, HO.out.bel⟩

theorem sessionFew_row (A : Option Addr) (c : Nat) (av : List SV) (w : World) (hl : av.length ≤ c) (hn : c * 48 ≤ 140737488351232) (hr : RA w A av) (hE : ErrT w) :
    Calls Tryd.prog 4 #[.slice A av.length c] w fun e w' => e = .returned (.bool true) ∧ Below w.heap.size w w' :=
  sessionFew_walk A _ c av w hE hr rfl (by omega)
end Go.Proofs.YtbdokphemdkhmaaDoor
