/- muntinlaw16.act: an act on both sides. -/
import Derived.Test.YtbdokphemdkhmaaDoorSTells
import Derived.Test.YtbdokphemdkhmaaDoorHeldZ
set_option linter.unusedVariables false
set_option linter.unusedSimpArgs false
namespace Go.Proofs.YtbdokphemdkhmaaDoor
open Go.RowKit

theorem lent_at (A : Option Addr) (c : Nat) (bs : List UInt8) (w : World) (hn : bs.length ≤ 140737488351232) (hr : RB w A bs) :
    Calls Tryd.prog 32 #[.slice A bs.length c] w fun e w' => ∃ g, e = .returned (.slice (some ⟨g, 0, none⟩) bs.length (bs.length + 1)) ∧ w'.cell? ⟨g, bs.length, none⟩ = some (.int .u8 77) ∧
      OD w' w.heap.size (.slice (some ⟨g, 0, none⟩) bs.length (bs.length + 1)) bs ∧ Below w.heap.size w w' := by
  refine (lent_any A c bs w hn hr).mono ?_
  rintro e w' ⟨rfl, rfl⟩
  exact ⟨_, rfl, cell_new _ _ _ _ _ (by simp), ⟨⟨by simp, .inr ⟨w.heap.size, bs.length + 1, mem (bv bs ++ [Value.int .u8 77]), rfl, Nat.le_refl _, heap_alloc_new _ _, by omega, by unfold maxLen; omega, by simp, by rw [mem_toList, List.take_append_of_le_length (by simp), List.take_of_length_le (by simp)]⟩⟩, hn⟩, below_alloc _ _⟩
theorem below_trans {B : Nat} {a b c : World} (h : Below B a b) (k : Below B b c) : Below B a c := ⟨k.os.trans h.os, k.tape.trans h.tape, k.output.trans h.output, Nat.le_trans h.size k.size, fun i hi => (k.block i hi).trans (h.block i hi)⟩
theorem errT_keep {base : Nat} {w w' : World} (hE : ErrT w) (hb : 0 < base) (b : Below base w w') : ErrT w' := (World.cell?_of_block (w := w) (b.block 0 hb)).trans hE
theorem ROpenP.open_ {clock : Int} {ls : List SV} {x clock' : Int} {ls' : List SV} (h : ROpenP clock ls x clock' ls') : OpenP clock ls x (goneR ls x) clock' ls' := by
  rcases h with ⟨h1, h2, h3⟩ | ⟨h1, h2, h3⟩
  · exact .inl ⟨h1, goneR_ne h1, h2, h3⟩
  · exact .inr ⟨h1, goneR_ok h1, h2, h3⟩
theorem OpenP.gone {clock : Int} {ls : List SV} {x gone clock' : Int} {ls' : List SV} (h : OpenP clock ls x gone clock' ls') : gone = goneR ls x := by
  rcases h with ⟨h1, h2, _⟩ | ⟨h1, h2, _⟩
  · rw [goneR_ne h1]; exact h2
  · rw [goneR_ok h1]; exact h2
theorem goneR_core {a b : List SV} (h : a.map core = b.map core) (x : Int) : goneR a x = goneR b x := by
  unfold goneR
  rw [open_core h, gone_core h]
theorem two_open {clock : Int} {a b : List SV} {x g1 g2 c1 c2 : Int} {a' b' : List SV} (h : a.map core = b.map core) (h1 : OpenP clock a x g1 c1 a') (h2 : OpenP clock b x g2 c2 b') : c1 = c2 ∧ a'.map core = b'.map core :=
  doP_core (w := default) (w' := default) (x := ⟨0, x, 0, none, 0, []⟩) h (.inl ⟨rfl, _, h1⟩) (.inl ⟨rfl, _, h2⟩)
theorem two_note {w w' : World} {clock : Int} {a b : List SV} {x q : Int} {r : List UInt8} {c1 c2 : Int} {a' b' : List SV} (h : a.map core = b.map core) (h1 : NoteP w clock a x q r c1 a') (h2 : NoteP w' clock b x q r c2 b') : c1 = c2 ∧ a'.map core = b'.map core :=
  doP_core (x := ⟨2, x, q, none, 0, r⟩) h (.inr (.inr ⟨show (2 : Int) ≠ 0 by decide, show (2 : Int) ≠ 1 by decide, h1⟩)) (.inr (.inr ⟨show (2 : Int) ≠ 0 by decide, show (2 : Int) ≠ 1 by decide, h2⟩))
/-- the blocks that an act writes -/
def AK (p b q : Nat) (v : Value) (k : Nat) : Prop := k = p ∨ k = b ∨ RTk q v k
theorem Two.ak {w : World} {base p b q : Nat} {v : Value} {clock : Int} {ss ls : List SV} (t : Two w base p b q v clock ss ls) {k : Nat} (h : AK p b q v k) : base ≤ k ∧ k < w.heap.size := by
  rcases h with h | h | h | h
  · subst h; exact ⟨t.tb.1, t.tb.plt⟩
  · subst h; exact ⟨t.tb.2.1, t.tb.2.2.2.1.lt⟩
  · subst h; exact ⟨t.rt.1, t.rt.lt⟩
  · exact t.rt.2.2.1.lt k h
theorem Frm.out {S : Nat → Prop} {w a b : World} {vs : List Value} (h : Frm S w a) (o : Out (OwnB vs) a b) (hs : ∀ k, OwnB vs k → w.heap.size ≤ k) : Frm S w b :=
  ⟨o.os.trans h.os, o.tape.trans h.tape, o.output.trans h.output, by rw [o.size]; exact h.size, fun k hk hk2 => (o.block k fun hc => by have := hs k hc; omega).trans (h.block k hk hk2)⟩
/-- what an act leaves -/
def ActP (base p b q : Nat) (clock : Int) (w : World) (e : Ending) (w' : World) : Prop :=
  e = .returned (.bool true) ∧ ∃ v' clock' ss' ls', Two w' base p b q v' clock' ss' ls' ∧ Below base w w' ∧ clock ≤ clock' ∧ clock' ≤ clock + 1

set_option maxRecDepth 100000 in
set_option maxHeartbeats 8000000 in
theorem act_any (base p b q : Nat) (v : Value) (clock : Int) (ss ls : List SV) (a : SV) (w : World) (t : Two w base p b q v clock ss ls) (hb : base ≤ w.heap.size) (hE : ErrT w) (hE0 : 0 < base) (hr : ∀ w', Below base w w' → RD w' a.D a.r) (w1 : (Lit.int .i64 a.l).wf = true) (w2_ : (Lit.int .i64 a.u).wf = true) (hc1 : clock ≤ 4611686018427400000) :
    Calls Tryd.prog 18 #[.pointer (some ⟨p, 0, none⟩), .pointer (some ⟨q, 0, none⟩), .agg #[.int .i64 a.i, .int .i64 a.l, .int .i64 a.u, .slice a.A a.r.length a.c]] w (ActP base p b q clock w) := by
  obtain ⟨d, id, sq, B, cb, r⟩ := a
  simp only [SV.D] at *
  have bA := below_alloc w (.cells #[.int .i64 d, .int .i64 id, .int .i64 sq, .slice B r.length cb] 30)
  have T := Lib.hid (t.below bA)
  have HRD := Lib.hid hr
  have HB := Lib.hid (bA.mono hb)
  have hbase := Lib.hid (show base ≤ (w.alloc (.cells #[.int .i64 d, .int .i64 id, .int .i64 sq, .slice B r.length cb] 30)).heap.size by simp; omega)
  have HE := Lib.hid fun (w' : World) (h : Below base w w') => errT_keep hE hE0 h
  have HC0 := Lib.hid (And.intro t.inv.c0 t.inv.len)
  have hrd0 := hr w (Below.refl _ _)
  obtain ⟨B0, cb0, hD0, -, hcr, hrl, hBn⟩ := hrd0
  cases hD0
  have HAK := Lib.hid fun (k : Nat) (h : AK p b q v k) => t.ak h
  have HBX := Lib.hid (heap_alloc_new w (.cells #[.int .i64 d, .int .i64 id, .int .i64 sq, .slice B r.length cb] 30))
  obtain ⟨W, hW⟩ : ∃ W, W = w.alloc (.cells #[.int .i64 d, .int .i64 id, .int .i64 sq, .slice B r.length cb] 30) := ⟨_, rfl⟩
  have HWZ := Lib.hid (show W.heap.size = w.heap.size + 1 by rw [hW]; simp)
  rw [← hW] at T HB hbase HBX
  have b0 : W.cell? ⟨w.heap.size, 0, none⟩ = some (.int .i64 d) := cell_of HBX.out 0
  have b1 : W.cell? ⟨w.heap.size, 1, none⟩ = some (.int .i64 id) := cell_of HBX.out 1
  have b2 : W.cell? ⟨w.heap.size, 2, none⟩ = some (.int .i64 sq) := cell_of HBX.out 2
  have b3 : W.cell? ⟨w.heap.size, 3, none⟩ = some (.slice B r.length cb) := cell_of HBX.out 3
  have HW := Lib.hid hW
  clear t hr hE bA hW hBn hcr
  have hcl := Lib.hid (show clock ≤ 4611686018427400000 by omega)
  by_cases hd0 : d = 0
  · subst hd0
    have HOP := Lib.hid (open_any base p b clock ss id W T.out.tb hbase.out w1 HC0.out.1 hcl.out (by have := HC0.out; omega) (fun s hs => (T.out.inv.each s hs).2.1))
    obtain ⟨k, hk⟩ : ∃ k, Hid (openE ss id = k) := ⟨_, Lib.hid rfl⟩
    rw [hk.out] at HOP
    have HKR := Lib.hid (show openE ls id = k by rw [← open_core T.out.same]; exact hk.out)
    go_enter Tryd.func18, Tryd.ntmps18
    go_wp2_with fail
    rw [← HW.out]
    go_wp2_with fail
    refine HOP.out.mono ?_
    rintro e w3 ⟨gone, clock3, ss3, rfl, t3, p3, f3⟩
    have R3 := T.out.rt.framedT T.out.tb f3
    have z3 := f3.size
    have HRO := Lib.hid (ropen_any base q v clock ls id w3 R3 (by have := hbase.out; omega) T.out.invr hcl.out)
    have hgo : gone = goneR ls id := by rw [p3.gone]; exact goneR_core T.out.same id
    rw [HKR.out, ← hgo] at HRO
    have HT3 := Lib.hid t3
    have HP3 := Lib.hid p3
    have HR3 := Lib.hid R3
    have hbx : ¬ (w.heap.size = p ∨ w.heap.size = b) := by
      rintro (e | e)
      · have := (HAK.out _ (.inl e)).2; omega
      · have := (HAK.out _ (.inr (.inl e))).2; omega
    have BX3 := (f3.block w.heap.size (by have := HWZ.out; omega) hbx).trans HBX.out
    have x1 : w3.cell? ⟨w.heap.size, 1, none⟩ = some (.int .i64 id) := cell_of BX3 1
    have B3 := Lib.hid (show Below base w w3 from below_trans HB.out (f3.below hbase.out (fun k h => h.elim (fun e => (HAK.out _ (.inl e)).1) (fun e => (HAK.out _ (.inr (.inl e))).1))))
    clear t3 p3 f3 R3 hgo BX3 hbx
    go_wp2_with fail
    refine HRO.out.mono ?_
    rintro e w4 ⟨v4, clock4, ls4, rfl, r4, p4, f4, o4⟩
    have T4 := Lib.hid (HT3.out.framedR HR3.out f4)
    obtain ⟨hcc, hsm⟩ := two_open T.out.same HP3.out p4.open_
    have HCC := Lib.hid hcc
    have HSM := Lib.hid hsm
    have HR4 := Lib.hid r4
    have B4 := Lib.hid (show Below base w w4 from below_trans B3.out (f4.below (by have := B3.out.size; omega) (fun k h => (HAK.out _ (.inr (.inr h))).1)))
    have HCD := Lib.hid (code_any k w4 (HE.out _ B4.out))
    have hgg : (gone == gone) = true := by simp
    have hkk : ((k : Int) == (k : Int)) = true := by simp
    clear r4 p4 f4 hcc hsm o4
    go_wp2_with fail
    refine HCD.out.mono ?_
    rintro e w5 ⟨rfl, b5⟩
    have hck := Lib.hid HP3.out.clock
    have H5 := Lib.hid (show Two w5 base p b q v4 clock3 ss3 ls4 from ⟨T4.out.below b5, by rw [HCC.out]; exact HR4.out.below b5, HSM.out, T.out.inv.open_ HP3.out w1⟩)
    have B5 := Lib.hid (show Below base w w5 from below_then B4.out (by have := B4.out.size; omega) b5)
    go_wp2_with fail
    go_ret
    exact ⟨rfl, v4, clock3, ss3, ls4, H5.out, B5.out, hck.out.1, hck.out.2⟩
  · by_cases hd1 : d = 1
    · subst hd1
      have HAS := Lib.hid (ask_any base p b clock ss id sq W T.out.tb w1)
      have hak := ask_core T.out.same id sq
      have HRA := Lib.hid fun (w3 : World) (h : Below W.heap.size W w3) => rask_any base q v clock ls id sq w3 (T.out.rt.below h) T.out.invr.ris (by have := T.out.invr.len; omega)
      rw [← hak.1, ← hak.2] at HRA
      generalize askK ss id sq = kk at HAS HRA
      generalize askR ss id sq = rr at HAS HRA
      clear hd0 hak
      go_enter Tryd.func18, Tryd.ntmps18
      go_wp2_with fail
      rw [← HW.out]
      go_wp2_with fail
      refine HAS.out.mono ?_
      rintro e w3 ⟨D, rfl, od, b3⟩
      obtain ⟨DB, dc, hD⟩ := od.one
      subst hD
      have x1 := below_cell b3 b1
      have x2 := below_cell b3 b2
      have HOD := Lib.hid od
      have HB3 := Lib.hid b3
      clear od b3
      go_wp2_with fail
      refine (HRA.out _ HB3.out).mono ?_
      rintro e w4 ⟨D2, rfl, od2, b4⟩
      obtain ⟨DB2, dc2, hD2⟩ := od2.one
      subst hD2
      have OD4 := Lib.hid (HOD.out.below b4)
      have B4 := Lib.hid (below_then HB3.out HB3.out.size b4)
      have k1 : (convert 28 9 (.slice DB rr.length dc)).run Tryd.prog w4 = .ok (.string (str rr)) w4 := run_str w4 DB rr dc (RB.own OD4.out.1) 9 Tryd.underlying9
      have k2 : (convert 28 9 (.slice DB2 rr.length dc2)).run Tryd.prog w4 = .ok (.string (str rr)) w4 := run_str w4 DB2 rr dc2 (RB.own od2.1) 9 Tryd.underlying9
      have hkk : (kk == kk) = true := by simp
      have HOW := Lib.hid (owned1 OD4.out)
      clear od2 b4
      go_wp2_with fail
      refine HOW.out.mono ?_
      rintro e w5 ⟨rfl, o5⟩
      have B5 := Lib.hid (show Below W.heap.size W w5 from o5.below (below_then B4.out B4.out.size (below_alloc w4 _)) fun k h => (OD4.out.1.lt k (own1 h)).1)
      go_wp2_with fail
      go_ret
      exact ⟨rfl, v, clock, ss, ls, T.out.below B5.out, below_trans HB.out (B5.out.mono hbase.out), by omega, by omega⟩
    · have hd0b : (d == 0) = false := by simpa using hd0
      have hd1b : (d == 1) = false := by simpa using hd1
      obtain ⟨k, hk⟩ : ∃ k, Hid (noteE ss id sq r = k) := ⟨_, Lib.hid rfl⟩
      have HKR := Lib.hid (show noteE ls id sq r = k by rw [← note_core T.out.same]; exact hk.out)
      have HRB0 := Lib.hid fun (w' : World) (h : Below base w w') => (show RB w' B r from by
        obtain ⟨B1, c1, e1, h1, -⟩ := HRD.out w' h
        cases e1
        exact h1)
      have HLN := Lib.hid (lent_at B cb r W hrl (HRB0.out _ HB.out))
      have D0 := Lib.hid hd0
      have D1 := Lib.hid hd1
      clear hd0 hd1
      go_enter Tryd.func18, Tryd.ntmps18
      go_wp2_with fail
      rw [← HW.out]
      go_wp2_with fail
      refine HLN.out.mono ?_
      rintro e w2 ⟨g, rfl, h77, od2, b2w⟩
      have HOD2 := Lib.hid od2
      have T2 := Lib.hid (T.out.below b2w)
      have z2 := b2w.size
      have HNT := Lib.hid (note_any base p b clock ss id sq _ r w2 T2.out.tb (by have := hbase.out; omega) od2.rd w1 HC0.out.1 hcl.out (by have := HC0.out; omega))
      rw [hk.out] at HNT
      have hgl := od2.1.lt g rfl
      have HGL := Lib.hid hgl
      have x1 := below_cell b2w b1
      have x2 := below_cell b2w b2
      have HB2W := Lib.hid b2w
      have H77 := Lib.hid h77
      clear od2 b2w hgl z2 h77
      go_wp2_with fail
      refine HNT.out.mono ?_
      rintro e w3 ⟨rfl, clock3, ss3, t3, p3, f3⟩
      have hgp : ¬ (g = p ∨ g = b) := by
        have := HGL.out
        have := HWZ.out
        rintro (e | e)
        · have := (HAK.out _ (.inl e)).2; omega
        · have := (HAK.out _ (.inr (.inl e))).2; omega
      have hg3 := f3.block g HGL.out.2 hgp
      have OD3 := Lib.hid (HOD2.out.step (w' := w3) fun k hk => by
        have hk : g = k := Option.some.inj hk
        subst hk
        exact hg3)
      have z3 : w3.cell? ⟨g, r.length, none⟩ = some (.int .u8 77) := (World.cell?_of_block (w := w2) hg3).trans H77.out
      have F3 := Lib.hid (show Frm (AK p b q v) W w3 from (Frm.of_below HB2W.out).trans (f3.mono fun k h => h.elim .inl fun h => .inr (.inl h)))
      have hbx : ¬ AK p b q v w.heap.size := fun h => by have := (HAK.out _ h).2; omega
      have HBN := Lib.hid hbx
      have BX3 := (F3.out.block w.heap.size (by have := HWZ.out; omega) hbx).trans HBX.out
      have y3 : w3.cell? ⟨w.heap.size, 3, none⟩ = some (.slice B r.length cb) := cell_of BX3 3
      have B3 := Lib.hid (show Below base w w3 from below_trans HB.out (F3.out.below hbase.out fun k h => (HAK.out _ h).1))
      have HKP := Lib.hid (kept_any (some ⟨g, 0, none⟩) B (r.length + 1) cb r w3 g rfl (RB.own OD3.out.1) (HRB0.out _ B3.out) (Nat.le_refl _) hrl z3)
      have R3 := Lib.hid (T2.out.rt.framedT T2.out.tb f3)
      have HT3 := Lib.hid t3
      have HP3 := Lib.hid p3
      clear t3 p3 f3 hgp hg3 z3 hbx BX3
      go_wp2_with fail
      refine HKP.out.mono ?_
      rintro e w3' ⟨rfl, rfl⟩
      have HOW := Lib.hid (owned1 OD3.out)
      go_wp2_with fail
      refine HOW.out.mono ?_
      rintro e w5 ⟨rfl, o5⟩
      have bA := below_alloc w3' (.cells #[.slice (some ⟨g, 0, none⟩) r.length (r.length + 1)] 28)
      have hoz : ∀ j, OwnB [.slice (some ⟨g, 0, none⟩) r.length (r.length + 1)] j → g = j := fun j h => Option.some.inj (own1 h)
      have F5 := Lib.hid (show Frm (AK p b q v) W w5 from (F3.out.trans (Frm.of_below bA)).out o5 fun j h => by rw [← hoz j h]; exact HGL.out.1)
      have T5 := Lib.hid (show TB w5 base p b clock3 ss3 from (HT3.out.below bA).step fun j hj => o5.block j fun h => by
        have e := hoz j h
        subst e
        have g1 := HGL.out
        rcases hj with e | e | ⟨s, hs, e⟩
        · have := (HAK.out _ (.inl e)).2; have := HWZ.out; omega
        · have := (HAK.out _ (.inr (.inl e))).2; have := HWZ.out; omega
        · rcases HP3.out with ⟨_, _, rfl⟩ | ⟨_, _, A, c, rfl, hA⟩
          · have := (T.out.tb.lt g (.inr (.inr ⟨s, hs, e⟩))).2; omega
          · rcases mem_putS.1 hs with rfl | ⟨hs, _⟩
            · have := hA g e; omega
            · have := (T.out.tb.lt g (.inr (.inr ⟨s, hs, e⟩))).2; omega)
      have hRT : ∀ j, j < W.heap.size → w5.heap[j]? = (w3'.alloc (.cells #[.slice (some ⟨g, 0, none⟩) r.length (r.length + 1)] 28)).heap[j]? := fun j hj => o5.block j fun h => by have := hoz j h; have := HGL.out.1; omega
      have R5 := Lib.hid (show RT w5 base q v clock ls from (R3.out.below bA).step (hRT q T.out.rt.lt) (fun j h => hRT j (T.out.rt.2.2.1.lt j h).2) (fun s hs j h => hRT j ((T.out.rt.2.2.2 s hs).1.lt j h).2))
      have B5 := Lib.hid (show Below base w w5 from below_trans HB.out (F5.out.below hbase.out fun k h => (HAK.out _ h).1))
      have HCD := Lib.hid (code_any k w5.drew (HE.out _ (below_drawn B5.out 1)))
      have BX5 := Lib.hid ((F5.out.block w.heap.size (by have := HWZ.out; omega) HBN.out).trans HBX.out)
      have hS0 : w5.drew.cell? ⟨w.heap.size, 1, none⟩ = some (.int .i64 id) ∧ w5.drew.cell? ⟨w.heap.size, 2, none⟩ = some (.int .i64 sq) ∧ w5.drew.cell? ⟨w.heap.size, 3, none⟩ = some (.slice B r.length cb) := ⟨cell_of (w := w5.drew) BX5.out 1, cell_of (w := w5.drew) BX5.out 2, cell_of (w := w5.drew) BX5.out 3⟩
      have hkk : ((k : Int) == (k : Int)) = true := by simp
      clear o5 bA hoz hRT y3
      go_wp2_with fail
      refine wp_region_Z (fun w' => w'.cell? ⟨w.heap.size, 1, none⟩ = some (.int .i64 id) ∧ w'.cell? ⟨w.heap.size, 2, none⟩ = some (.int .i64 sq) ∧ w'.cell? ⟨w.heap.size, 3, none⟩ = some (.slice B r.length cb)) 17 (by kernel_rfl) hS0 (fun hHeld => ?_)
      refine wpAnyZ_take (i := 0) (v := ?_) rfl (by kernel_rfl) (by kernel_rfl) (by kernel_rfl) (by kernel_rfl) (by decide) (fun _ _ _ h => h) (by rfl) ?_ (by assumption) ?_
      rotate_left
      · (intro w hSw; (try dsimp only at hSw); go_simp) <;> with_reducible rfl
      try simp only [Act.put, List.getElem_toArray, List.getElem_cons_zero, List.getElem_cons_succ, List.setIfInBounds_toArray, List.set_cons_zero, List.set_cons_succ]
      refine wpAnyZ_take (i := 1) (v := ?_) rfl (by kernel_rfl) (by kernel_rfl) (by kernel_rfl) (by kernel_rfl) (by decide) (fun _ _ _ h => h) (by rfl) ?_ (by assumption) ?_
      rotate_left
      · (intro w hSw; (try dsimp only at hSw); go_simp) <;> with_reducible rfl
      try simp only [Act.put, List.getElem_toArray, List.getElem_cons_zero, List.getElem_cons_succ, List.setIfInBounds_toArray, List.set_cons_zero, List.set_cons_succ]
      refine wpAnyZ_take (i := 2) (v := ?_) rfl (by kernel_rfl) (by kernel_rfl) (by kernel_rfl) (by kernel_rfl) (by decide) (fun _ _ _ h => h) (by rfl) ?_ (by assumption) ?_
      rotate_left
      · (intro w hSw; (try dsimp only at hSw); go_simp) <;> with_reducible rfl
      try simp only [Act.put, List.getElem_toArray, List.getElem_cons_zero, List.getElem_cons_succ, List.setIfInBounds_toArray, List.set_cons_zero, List.set_cons_succ]
      refine wpAnyZ_take (i := 3) (v := ?_) rfl (by kernel_rfl) (by kernel_rfl) (by kernel_rfl) (by kernel_rfl) (by decide) (fun _ _ _ h => h) (by rfl) ?_ (by assumption) ?_
      rotate_left
      · (intro w hSw; (try dsimp only at hSw); go_simp) <;> with_reducible rfl
      try simp only [Act.put, List.getElem_toArray, List.getElem_cons_zero, List.getElem_cons_succ, List.setIfInBounds_toArray, List.set_cons_zero, List.set_cons_succ]
      refine wpAnyZ_take (i := 4) (v := ?_) rfl (by kernel_rfl) (by kernel_rfl) (by kernel_rfl) (by kernel_rfl) (by decide) (fun _ _ _ h => h) (by rfl) ?_ (by assumption) ?_
      rotate_left
      · (intro w hSw; (try dsimp only at hSw); go_simp) <;> with_reducible rfl
      try simp only [Act.put, List.getElem_toArray, List.getElem_cons_zero, List.getElem_cons_succ, List.setIfInBounds_toArray, List.set_cons_zero, List.set_cons_succ]
      refine wpAnyZ_take (i := 5) (v := ?_) rfl (by kernel_rfl) (by kernel_rfl) (by kernel_rfl) (by kernel_rfl) (by decide) (fun _ _ _ h => h) (by rfl) ?_ (by assumption) ?_
      rotate_left
      · (intro w hSw; (try dsimp only at hSw); go_simp) <;> with_reducible rfl
      try simp only [Act.put, List.getElem_toArray, List.getElem_cons_zero, List.getElem_cons_succ, List.setIfInBounds_toArray, List.set_cons_zero, List.set_cons_succ]
      refine wpAnyZ_take (i := 7) (v := ?_) rfl (by kernel_rfl) (by kernel_rfl) (by kernel_rfl) (by kernel_rfl) (by decide) (fun _ _ _ h => h) (by rfl) ?_ (by assumption) ?_
      rotate_left
      · (intro w hSw; (try dsimp only at hSw); go_simp) <;> with_reducible rfl
      try simp only [Act.put, List.getElem_toArray, List.getElem_cons_zero, List.getElem_cons_succ, List.setIfInBounds_toArray, List.set_cons_zero, List.set_cons_succ]
      refine wpAnyZ_take (i := 8) (v := ?_) rfl (by kernel_rfl) (by kernel_rfl) (by kernel_rfl) (by kernel_rfl) (by decide) (fun _ _ _ h => h) (by rfl) ?_ (by assumption) ?_
      rotate_left
      · (intro w hSw; (try dsimp only at hSw); go_simp) <;> with_reducible rfl
      try simp only [Act.put, List.getElem_toArray, List.getElem_cons_zero, List.getElem_cons_succ, List.setIfInBounds_toArray, List.set_cons_zero, List.set_cons_succ]
      refine wpAnyZ_take (i := 9) (v := ?_) rfl (by kernel_rfl) (by kernel_rfl) (by kernel_rfl) (by kernel_rfl) (by decide) (fun _ _ _ h => h) (by rfl) ?_ (by assumption) ?_
      rotate_left
      · (intro w hSw; (try dsimp only at hSw); go_simp) <;> with_reducible rfl
      try simp only [Act.put, List.getElem_toArray, List.getElem_cons_zero, List.getElem_cons_succ, List.setIfInBounds_toArray, List.set_cons_zero, List.set_cons_succ]
      refine wpAnyZ_take (i := 10) (v := ?_) rfl (by kernel_rfl) (by kernel_rfl) (by kernel_rfl) (by kernel_rfl) (by decide) (fun _ _ _ h => h) (by rfl) ?_ (by assumption) ?_
      rotate_left
      · (intro w hSw; (try dsimp only at hSw); go_simp) <;> with_reducible rfl
      try simp only [Act.put, List.getElem_toArray, List.getElem_cons_zero, List.getElem_cons_succ, List.setIfInBounds_toArray, List.set_cons_zero, List.set_cons_succ]
      refine wpAnyZ_take (i := 11) (v := ?_) rfl (by kernel_rfl) (by kernel_rfl) (by kernel_rfl) (by kernel_rfl) (by decide) (fun _ _ _ h => h) (by rfl) ?_ (by assumption) ?_
      rotate_left
      · (intro w hSw; (try dsimp only at hSw); go_simp) <;> with_reducible rfl
      try simp only [Act.put, List.getElem_toArray, List.getElem_cons_zero, List.getElem_cons_succ, List.setIfInBounds_toArray, List.set_cons_zero, List.set_cons_succ]
      refine wpAnyZ_take (i := 12) (v := ?_) rfl (by kernel_rfl) (by kernel_rfl) (by kernel_rfl) (by kernel_rfl) (by decide) (fun _ _ _ h => h) (by rfl) ?_ (by assumption) ?_
      rotate_left
      · (intro w hSw; (try dsimp only at hSw); go_simp) <;> with_reducible rfl
      try simp only [Act.put, List.getElem_toArray, List.getElem_cons_zero, List.getElem_cons_succ, List.setIfInBounds_toArray, List.set_cons_zero, List.set_cons_succ]
      refine wpAnyZ_take (i := 13) (v := ?_) rfl (by kernel_rfl) (by kernel_rfl) (by kernel_rfl) (by kernel_rfl) (by decide) (fun _ _ _ h => h) (by rfl) ?_ (by assumption) ?_
      rotate_left
      · (intro w hSw; (try dsimp only at hSw); go_simp) <;> with_reducible rfl
      try simp only [Act.put, List.getElem_toArray, List.getElem_cons_zero, List.getElem_cons_succ, List.setIfInBounds_toArray, List.set_cons_zero, List.set_cons_succ]
      refine wpAnyZ_step (i := 6) rfl (by kernel_rfl) (fun K hK => ?_)
      go_simp
      refine HCD.out.mono ?_
      rintro e w6 ⟨rfl, b6⟩
      have b65 := below_then (below_drawn (Below.refl _ w5) 1) (Nat.le_refl _) b6
      have HB6 := Lib.hid (show Below w5.heap.size w5 w6 from b65)
      have B6 := Lib.hid (show Below base w w6 from below_then B5.out (by have := B5.out.size; omega) HB6.out)
      have wz : w.heap.size < w5.heap.size := (Array.getElem?_eq_some_iff.1 BX5.out).1
      have hS6 : w6.cell? ⟨w.heap.size, 1, none⟩ = some (.int .i64 id) ∧ w6.cell? ⟨w.heap.size, 2, none⟩ = some (.int .i64 sq) ∧ w6.cell? ⟨w.heap.size, 3, none⟩ = some (.slice B r.length cb) := by
        have h := (HB6.out.block _ wz).trans BX5.out
        exact ⟨cell_of h 1, cell_of h 2, cell_of h 3⟩
      have T6 := Lib.hid (T5.out.below HB6.out)
      have R6 := Lib.hid (R5.out.below HB6.out)
      have HRN := Lib.hid (rnote_any base q v clock ls id sq _ r w6 R6.out (by have := B6.out.size; omega) T.out.invr (HRD.out _ B6.out) hcl.out)
      rw [HKR.out] at HRN
      refine hK.out _ _ (fun _ => hS6) ?_
      clear hK K b65 b6
      try simp only [Act.put, List.getElem_toArray, List.getElem_cons_zero, List.getElem_cons_succ, List.setIfInBounds_toArray, List.set_cons_zero, List.set_cons_succ]
      refine wpAnyZ_step (i := 14) rfl (by kernel_rfl) (fun K hK => ?_)
      go_simp
      refine HRN.out.mono ?_
      rintro e w7 ⟨clock7, ls7, rfl, r7, p7, f7⟩
      have hS7 : w7.cell? ⟨w.heap.size, 1, none⟩ = some (.int .i64 id) ∧ w7.cell? ⟨w.heap.size, 2, none⟩ = some (.int .i64 sq) ∧ w7.cell? ⟨w.heap.size, 3, none⟩ = some (.slice B r.length cb) := by
        have h6 := (HB6.out.block _ wz).trans BX5.out
        have h := (f7.block w.heap.size (by have := HB6.out.size; omega) (fun h => HBN.out (.inr (.inr h)))).trans h6
        exact ⟨cell_of h 1, cell_of h 2, cell_of h 3⟩
      obtain ⟨hcc, hsm⟩ := two_note T.out.same HP3.out p7
      have H7 := Lib.hid (show Two w7 base p b q v clock3 ss3 ls7 from ⟨T6.out.framedR R6.out f7, by rw [hcc]; exact r7, hsm, T.out.inv.note HP3.out w1 w2_⟩)
      have B7 := Lib.hid (show Below base w w7 from below_trans B6.out (f7.below (by have := B6.out.size; omega) (fun k h => (HAK.out _ (.inr (.inr h))).1)))
      refine hK.out _ _ (fun _ => hS7) ?_
      clear hK K r7 p7 f7
      try simp only [Act.put, List.getElem_toArray, List.getElem_cons_zero, List.getElem_cons_succ, List.setIfInBounds_toArray, List.set_cons_zero, List.set_cons_succ]
      refine wpAnyZ_take (i := 15) (v := ?_) rfl (by kernel_rfl) (by kernel_rfl) (by kernel_rfl) (by kernel_rfl) (by decide) (fun _ _ _ h => h) (by rfl) ?_ (by assumption) ?_
      rotate_left
      · (intro w hSw; (try dsimp only at hSw); go_simp) <;> with_reducible rfl
      try simp only [Act.put, List.getElem_toArray, List.getElem_cons_zero, List.getElem_cons_succ, List.setIfInBounds_toArray, List.set_cons_zero, List.set_cons_succ]
      refine wpAnyZ_take (i := 16) (v := ?_) rfl (by kernel_rfl) (by kernel_rfl) (by kernel_rfl) (by kernel_rfl) (by decide) (fun _ _ _ h => h) (by rfl) ?_ (by assumption) ?_
      rotate_left
      · (intro w hSw; (try dsimp only at hSw); go_simp) <;> with_reducible rfl
      try simp only [Act.put, List.getElem_toArray, List.getElem_cons_zero, List.getElem_cons_succ, List.setIfInBounds_toArray, List.set_cons_zero, List.set_cons_succ]
      refine wpAnyZ_step (i := 17) rfl (by kernel_rfl) (fun K hK => ?_)
      go_simp
      refine hK.out _ _ (fun h => absurd rfl h) ?_
      clear hK K
      try simp only [Act.put, List.getElem_toArray, List.getElem_cons_zero, List.getElem_cons_succ, List.setIfInBounds_toArray, List.set_cons_zero, List.set_cons_succ]
      refine wpAnyZ_done (by kernel_rfl) ?_
      refine NoPanic.normal ?_
      go_wp2_with fail
      go_ret
      exact ⟨rfl, v, clock3, ss3, ls7, H7.out, B7.out, HP3.out.clock.1, HP3.out.clock.2⟩
end Go.Proofs.YtbdokphemdkhmaaDoor
