/- muntinlaw16.SessionOnce: the walk. -/
import Derived.Test.YtbdokphemdkhmaaDoorSSmall
import Derived.Test.YtbdokphemdkhmaaDoorSAct
set_option linter.unusedVariables false
set_option linter.unusedSimpArgs false
namespace Go.Proofs.YtbdokphemdkhmaaDoor
open Go.RowKit

theorem od_ne_map {w : World} {base m : Nat} {D : Value} {r : List UInt8} {es : IVs} (ho : OD w base D r) (hm : IM w m es) : D.ownBlock ≠ some m := by
  intro e
  obtain ⟨_, _, _, h2, _⟩ := hm
  rcases ho.1.2 with ⟨rfl, _⟩ | ⟨g, cap, cur, rfl, _, hg, _⟩
  · simp [Value.ownBlock] at e
  · simp [Value.ownBlock] at e
    subst e
    rw [h2] at hg
    cases hg
theorem TB.mapped {w w' : World} {base p b m : Nat} {clock : Int} {ss : List SV} {es : IVs} (h : TB w base p b clock ss) (hm : IM w m es) (hb : b ≠ m) (hg : w.grownBy w' (some m)) : TB w' base p b clock ss := by
  refine h.step ?_
  rintro k (rfl | rfl | ⟨s, hs, hk⟩)
  · refine hg.block _ h.plt fun e => ?_
    obtain ⟨_, _, _, h2, _⟩ := hm
    rw [← Option.some.inj e, h.2.2.1] at h2
    cases h2
  · exact hg.block _ h.2.2.2.1.lt fun e => hb (Option.some.inj e)
  · have o := h.2.2.2.2 s hs
    exact hg.block k (o.1.lt k hk).2 fun e => od_ne_map o hm (by rw [hk, e])
/-- a map besides the table's is kept by what the table does -/
theorem IM.framed {w w' : World} {p b m : Nat} {es : IVs} {base : Nat} {clock : Int} {ss : List SV} (h : IM w m es) (t : TB w base p b clock ss) (hb : b ≠ m) (f : Frm (fun k => k = p ∨ k = b) w w') : IM w' m es :=
  h.step (f.block m h.lt (by
    rintro (e | e)
    · obtain ⟨_, _, _, h2, _⟩ := h
      rw [e, t.2.2.1] at h2
      cases h2
    · exact hb e.symm))
theorem IM.mapped {w w' : World} {m m' : Nat} {es : IVs} (h : IM w m es) (hne : m ≠ m') (hg : w.grownBy w' (some m')) : IM w' m es := h.step (hg.block m h.lt fun e => hne (Option.some.inj e))
theorem below_mapped {w0 w w' : World} {m : Nat} (h : Below w0.heap.size w0 w) (hg : w.grownBy w' (some m)) (hm : w0.heap.size ≤ m) : Below w0.heap.size w0 w' := h.grown hg h.size (fun k hk => by cases hk; exact hm)

theorem look_put_same {x : Int} {v : Value} {es : IVs} (hr : risI es) : look x (putI x v es) = some v := look_of_mem (risI_put hr x v) (mem_insI.2 (.inl rfl))
theorem look_put_other {x y : Int} {v u : Value} {es : IVs} (hr : risI es) (hne : y ≠ x) (h : look y es = some u) : look y (putI x v es) = some u :=
  look_of_mem (risI_put hr x v) (mem_insI.2 (.inr (mem_delI.2 ⟨look_some h, hne⟩)))

theorem TB.lower {w : World} {base base' p b : Nat} {clock : Int} {ss : List SV} (h : TB w base p b clock ss) (hb : base' ≤ base) : TB w base' p b clock ss :=
  ⟨Nat.le_trans hb h.1, Nat.le_trans hb h.2.1, h.2.2.1, h.2.2.2.1, fun s hs => (h.2.2.2.2 s hs).lower hb⟩
/-- the law's loop, under way -/
structure OS (w : World) (p b bl bs : Nat) (wr : World) (k : Nat) (clock : Int) (ss : List SV) (eL eS : IVs) : Prop where
  tb : TB wr w.heap.size p b clock ss
  inv : Inv clock ss
  ck : clock ≤ k
  il : IM wr bl eL
  is : IM wr bs eS
  ll : eL.length ≤ k
  ls : eS.length ≤ k
  rel : ∀ s ∈ ss, look s.i eL = some (.int .i64 s.l) ∧ look s.i eS = some (.string (str s.r))
  bel : Below w.heap.size w wr
theorem OS.below {w : World} {p b bl bs : Nat} {wr wr' : World} {k : Nat} {clock : Int} {ss : List SV} {eL eS : IVs} (h : OS w p b bl bs wr k clock ss eL eS) (hb : Below wr.heap.size wr wr') : OS w p b bl bs wr' k clock ss eL eS :=
  ⟨h.tb.below hb, h.inv, h.ck, h.il.below hb, h.is.below hb, h.ll, h.ls, h.rel, below_then h.bel h.bel.size hb⟩
theorem OS.succ {w : World} {p b bl bs : Nat} {wr : World} {k : Nat} {clock : Int} {ss : List SV} {eL eS : IVs} (h : OS w p b bl bs wr k clock ss eL eS) : OS w p b bl bs wr (k + 1) clock ss eL eS :=
  ⟨h.tb, h.inv, by have := h.ck; omega, h.il, h.is, by have := h.ll; omega, by have := h.ls; omega, h.rel, h.bel⟩

theorem zeroI (w : World) : (zeroValue 3).run Tryd.prog w = .ok (.int .i64 0) w := by kernel_rfl
theorem zeroStr (w : World) : (zeroValue 9).run Tryd.prog w = .ok (.string { data := #[] }) w := by kernel_rfl

set_option maxRecDepth 100000 in
set_option maxHeartbeats 4000000 in
theorem sessionOnce_walk (A : Option Addr) (n c : Nat) (av : List SV) (w : World) (hE : ErrT w) (hr : RA w A av) (hl : av.length = n) (hn : n ≤ 10000000000000) :
    Calls Tryd.prog 3 #[.slice A n c] w fun e w' => e = .returned (.bool true) ∧ Below w.heap.size w w' := by
  have hmm := @run_makeMap Tryd.prog
  have HS := Lib.hid (small_any w hE)
  have HR := Lib.hid hr
  have HL := Lib.hid hl
  have HE := Lib.hid hE
  clear hr hl hE
  go_enter Tryd.func3, Tryd.ntmps3
  go_wp2_with fail
  refine HS.out.mono ?_
  rintro e w1 ⟨rfl, b1⟩
  have HB1 := Lib.hid b1
  clear b1
  go_wp2_with fail
  refine (new_any w1).mono ?_
  rintro e w2 ⟨p, b, rfl, t2, b2⟩
  have hpw : w.heap.size ≤ p := Nat.le_trans HB1.out.size t2.1
  have hbw : w.heap.size ≤ b := Nat.le_trans HB1.out.size t2.2.1
  have hbl : b < w2.heap.size := t2.2.2.2.1.lt
  have B2 := Lib.hid (below_then HB1.out HB1.out.size b2)
  have T2 := Lib.hid (t2.lower HB1.out.size)
  have hB2 := Lib.hid (B2.out.size)
  clear t2 b2
  go_wp2_with fail
  obtain ⟨bl, hbl2⟩ : ∃ bl, bl = w2.heap.size := ⟨_, rfl⟩
  rw [← hbl2]
  have bA := (below_alloc w2 (.map #[] 0)).alloc (by simp) (.map #[] 0)
  have OS0 : OS w p b bl (bl + 1) ((w2.alloc (.map #[] 0)).alloc (.map #[] 0)) 0 0 [] [] [] := by
    refine ⟨T2.out.below bA, Inv.new, by simp, ?_, ?_, by simp, by simp, by simp, below_then B2.out B2.out.size bA⟩
    · rw [hbl2]; exact (IM.made w2).below (below_alloc _ _)
    · have := IM.made (w2.alloc (.map #[] 0))
      rw [hbl2]; simpa using this
  have hne1 := Lib.hid (show b ≠ bl by omega)
  have hne2 := Lib.hid (show b ≠ bl + 1 by omega)
  have hblw := Lib.hid (show w.heap.size ≤ bl by have := hB2.out; omega)
  have H0 := Lib.hid OS0
  clear OS0 bA hbl hbl2
  go_loopg [7] 200 (fun q ki wr => ∃ (k : Nat) (clock : Int) (ss : List SV) (eL eS : IVs), q = 200 - k ∧ k ≤ 200 ∧ ki = .int .i64 k ∧ OS w p b bl (bl + 1) wr k clock ss eL eS)
  case atStart => exact ⟨0, 0, [], [], [], rfl, by omega, rfl, H0.out⟩
  case round =>
    obtain ⟨k, clock, ss, eL, eS, hq, hk, rfl, O⟩ := hrel
    have HO := Lib.hid O
    clear O
    by_cases hkn : k < n ∧ k < 200
    · obtain ⟨hk1, hk2⟩ := hkn
      have hk1i : (k : Int) < (n : Int) := by omega
      have hk2i : (k : Int) < 200 := by omega
      have hka : k < av.length := by rw [HL.out]; exact hk1
      obtain ⟨g, o, rfl, hg, hc⟩ := (HR.out.below HO.out.bel).addr (by omega)
      obtain ⟨c0, c1, c2, c3, hrd, w0', w1', w2'⟩ := hc k hka
      obtain ⟨a, ha⟩ : ∃ a, a = av[k] := ⟨_, rfl⟩
      rw [← ha] at c0 c1 c2 c3 hrd w0' w1' w2'
      obtain ⟨d, id, q', B, cb, bs⟩ := a
      simp only [SV.D] at c0 c1 c2 c3 hrd w0' w1' w2'
      have bA := below_alloc wr (.cells #[.int .i64 d, .int .i64 id, .int .i64 q', .slice B bs.length cb] 30)
      have HO1 := Lib.hid (HO.out.below bA)
      have HRD := Lib.hid (hrd.below bA)
      have hbase := Lib.hid (show w.heap.size ≤ (wr.alloc (.cells #[.int .i64 d, .int .i64 id, .int .i64 q', .slice B bs.length cb] 30)).heap.size from HO1.out.bel.size)
      have hck := Lib.hid (show clock ≤ 4611686018427400000 by have := HO.out.ck; omega)
      have hbx := Lib.hid (heap_alloc_new wr (.cells #[.int .i64 d, .int .i64 id, .int .i64 q', .slice B bs.length cb] 30))
      have hzx := Lib.hid (show wr.heap.size < (wr.alloc (.cells #[.int .i64 d, .int .i64 id, .int .i64 q', .slice B bs.length cb] 30)).heap.size by simp)
      have W1 := Lib.hid w1'
      have W2 := Lib.hid w2'
      clear hc hrd w0' w1' w2' ha bA
      by_cases hd0 : d = 0
      · subst hd0
        have HOP := Lib.hid (open_any w.heap.size p b clock ss id _ HO1.out.tb hbase.out W1.out HO.out.inv.c0 hck.out (by have := HO.out.inv.len; omega) (fun s hs => (HO.out.inv.each s hs).2.1))
        by_cases he : openE ss id = 0
        · rw [he] at HOP
          have HEE := Lib.hid he
          clear he
          go_wp2_with fail
          refine HOP.out.mono ?_
          rintro e w3 ⟨gone, clock', ss', rfl, t3, p3, f3⟩
          rw [errV_zero]
          have hpne : wr.heap.size ≠ p := by have := HO.out.tb.plt; omega
          have hbne : wr.heap.size ≠ b := by have := HO.out.tb.2.2.2.1.lt; omega
          have bx3 := (f3.block wr.heap.size hzx.out (by rintro (e | e); exact hpne e; exact hbne e)).trans hbx.out
          have il3 := HO1.out.il.framed HO1.out.tb hne1.out f3
          have is3 := HO1.out.is.framed HO1.out.tb hne2.out f3
          have hlL := HO.out.ll
          have hlS := HO.out.ls
          obtain ⟨w4, run4, il4, g4, z4⟩ := il3.store Tryd.underlying26 (by unfold maxLen; omega) W1.out (.int .i64 0)
          have is4 := is3.mapped (by omega) g4
          obtain ⟨w5, run5, is5, g5, z5⟩ := is4.store Tryd.underlying27 (by unfold maxLen; omega) W1.out (.string { data := #[] })
          have hblt := il3.lt
          have hz3 := f3.size
          have hzz := hzx.out
          have bx4 := (g4.block wr.heap.size (by omega) (fun e => by have := HO.out.il.lt; have := Option.some.inj e; omega)).trans bx3
          have k1 : w3.cell? ⟨wr.heap.size, 1, none⟩ = some (.int .i64 id) := cell_of bx3 1
          have k2 : w4.cell? ⟨wr.heap.size, 1, none⟩ = some (.int .i64 id) := cell_of bx4 1
          have HN := Lib.hid (show OS w p b bl (bl + 1) w5 (k + 1) clock' ss' (putI id (.int .i64 0) eL) (putI id (.string { data := #[] }) eS) by
            have t4 := t3.mapped il3 hne1.out g4
            have t5 := t4.mapped is4 hne2.out g5
            have B3 : Below w.heap.size w w3 := f3.bel HO1.out.bel hpw hbw
            have B5 := below_mapped (below_mapped B3 g4 hblw.out) g5 (by have := hblw.out; omega)
            have l1 := length_putI_le id (.int .i64 0) eL
            have l2 := length_putI_le id (.string { data := #[] }) eS
            have hck2 := HO.out.ck
            refine ⟨t5, HO.out.inv.open_ p3 W1.out, ?_, il4.mapped (by omega) g5, is5, by omega, by omega, fun s hs => ?_, B5⟩
            · rcases p3 with ⟨h, _⟩ | ⟨_, _, rfl, _⟩
              · exact absurd HEE.out h
              · omega
            · rcases p3 with ⟨h, _⟩ | ⟨_, _, _, rfl⟩
              · exact absurd HEE.out h
              · rcases mem_putS.1 hs with rfl | ⟨hs, hne⟩
                · exact ⟨look_put_same il3.1, look_put_same is4.1⟩
                · obtain ⟨r1, r2⟩ := HO.out.rel s (dropS_mem hs)
                  exact ⟨look_put_other il3.1 hne r1, look_put_other is4.1 hne r2⟩)
          clear il3 is3 il4 is4 is5 g4 g5 z4 z5 bx3 bx4 f3 t3 p3 hlL hlS hz3 hzz hpne hbne hblt
          go_wp2_with fail
          go_roundg (200 - (k + 1))
          case measure => omega
          case rel => exact ⟨k + 1, _, _, _, _, rfl, by omega, by go_num, HN.out⟩
        · have hev : ∃ e, openE ss id = e ∧ e ≠ 0 := ⟨_, rfl, he⟩
          obtain ⟨e1, he1, he2⟩ := hev
          have HEE := Lib.hid he
          rw [he1] at HOP
          have hev : errV e1 = .iface 48 (.int .i64 e1) := errV_pos e1 he2
          rw [hev] at HOP
          clear he he1 hev
          go_wp2_with fail
          refine HOP.out.mono ?_
          rintro e w3 ⟨gone, clock', ss', rfl, t3, p3, f3⟩
          have hsame : clock' = clock ∧ ss' = ss := by
            rcases p3 with ⟨_, _, h1, h2⟩ | ⟨h, _⟩
            · exact ⟨h1, h2⟩
            · exact absurd h HEE.out
          obtain ⟨rfl, rfl⟩ := hsame
          have HN := Lib.hid (show OS w p b bl (bl + 1) w3 (k + 1) clock' ss' eL eS from
            OS.succ ⟨t3, HO.out.inv, HO.out.ck, HO1.out.il.framed HO1.out.tb hne1.out f3, HO1.out.is.framed HO1.out.tb hne2.out f3, HO.out.ll, HO.out.ls, HO.out.rel, f3.bel HO1.out.bel hpw hbw⟩)
          clear t3 p3 f3
          go_wp2_with fail
          go_roundg (200 - (k + 1))
          case measure => omega
          case rel => exact ⟨k + 1, _, _, _, _, rfl, by omega, by go_num, HN.out⟩
      · by_cases hd1 : d = 1
        · subst hd1
          have HAS := Lib.hid (ask_any w.heap.size p b clock ss id q' _ HO1.out.tb W1.out)
          have hbs := hbx.out
          have k1 : ∀ w3, Below (wr.alloc (.cells #[.int .i64 1, .int .i64 id, .int .i64 q', .slice B bs.length cb] 30)).heap.size (wr.alloc (.cells #[.int .i64 1, .int .i64 id, .int .i64 q', .slice B bs.length cb] 30)) w3 → w3.cell? ⟨wr.heap.size, 1, none⟩ = some (.int .i64 id) ∧ w3.cell? ⟨wr.heap.size, 2, none⟩ = some (.int .i64 q') := fun w3 h =>
            ⟨below_cell h (cell_of hbs 1), below_cell h (cell_of hbs 2)⟩
          have HK := Lib.hid k1
          clear k1 hbs
          by_cases hk2' : askK ss id q' = 2
          · obtain ⟨s, hf, hsl, hsr⟩ := ask_two hk2'
            rw [hk2', hsr] at HAS
            obtain ⟨hsm, hsi⟩ := findS_mem hf
            obtain ⟨r1, r2⟩ := HO.out.rel s hsm
            rw [hsi, hsl] at r1
            rw [hsi] at r2
            have R1 := Lib.hid r1
            have R2 := Lib.hid r2
            obtain ⟨rb, hrb⟩ : ∃ rb, rb = s.r := ⟨_, rfl⟩
            rw [← hrb] at HAS R2
            clear hk2' hsr hsl hf hsi r1 r2 hrb
            go_wp2_with fail
            refine HAS.out.mono ?_
            rintro e w3 ⟨D, rfl, od, b3⟩
            obtain ⟨k1, k2⟩ := HK.out w3 b3
            obtain ⟨DB, dc, hD⟩ := od.one
            subst hD
            have l1 := (HO1.out.below b3).il.look Tryd.underlying26 (zeroI w3) W1.out
            have l2 := (HO1.out.below b3).is.look Tryd.underlying27 (zeroStr w3) W1.out
            rw [R1.out] at l1
            rw [R2.out] at l2
            simp only [Option.getD_some] at l1 l2
            have e1 := run_str w3 DB rb dc (RB.own od.1) 9 Tryd.underlying9
            have e2 : (q' != q') = false := by simp
            have e3 : (rb != rb) = false := by simp
            have HN := Lib.hid (HO1.out.below b3).succ
            clear od b3
            go_wp2_with fail
            go_roundg (200 - (k + 1))
            case measure => omega
            case rel => exact ⟨k + 1, _, _, _, _, rfl, by omega, by go_num, HN.out⟩
          · by_cases hk1' : askK ss id q' = 1
            · obtain ⟨s, hf, hsl⟩ := ask_one hk1'
              rw [hk1'] at HAS
              obtain ⟨hsm, hsi⟩ := findS_mem hf
              obtain ⟨r1, -⟩ := HO.out.rel s hsm
              rw [hsi] at r1
              have R1 := Lib.hid r1
              obtain ⟨sl, hsl2⟩ : ∃ sl, sl = s.l := ⟨_, rfl⟩
              rw [← hsl2] at hsl R1
              have hnl : ¬ q' ≤ sl := by omega
              clear hk1' hk2' hf hsi r1 hsl2 hsl
              go_wp2_with fail
              refine HAS.out.mono ?_
              rintro e w3 ⟨D, rfl, od, b3⟩
              obtain ⟨k1, k2⟩ := HK.out w3 b3
              have l1 := (HO1.out.below b3).il.look Tryd.underlying26 (zeroI w3) W1.out
              rw [R1.out] at l1
              simp only [Option.getD_some] at l1
              have HN := Lib.hid (HO1.out.below b3).succ
              clear od b3
              go_wp2_with fail
              go_roundg (200 - (k + 1))
              case measure => omega
              case rel => exact ⟨k + 1, _, _, _, _, rfl, by omega, by go_num, HN.out⟩
            · obtain ⟨kk, hkk⟩ : ∃ kk, kk = askK ss id q' := ⟨_, rfl⟩
              rw [← hkk] at HAS hk2' hk1'
              have b1 : (kk == 1) = false := by simpa using hk1'
              have b2 : (kk == 2) = false := by simpa using hk2'
              clear hkk hk1' hk2'
              go_wp2_with fail
              refine HAS.out.mono ?_
              rintro e w3 ⟨D, rfl, od, b3⟩
              have HN := Lib.hid (HO1.out.below b3).succ
              clear od b3
              go_wp2_with fail
              go_roundg (200 - (k + 1))
              case measure => omega
              case rel => exact ⟨k + 1, _, _, _, _, rfl, by omega, by go_num, HN.out⟩
        · have hd0b : (d == 0) = false := by simpa using hd0
          have hd1b : (d == 1) = false := by simpa using hd1
          have HNT := Lib.hid (note_any w.heap.size p b clock ss id q' _ bs _ HO1.out.tb hbase.out HRD.out W1.out HO.out.inv.c0 hck.out (by have := HO.out.inv.len; omega))
          by_cases he : noteE ss id q' bs = 0
          · rw [he] at HNT
            obtain ⟨ha1, hbl⟩ := note_zero he
            obtain ⟨s, hf, hsl⟩ := ask_one ha1
            obtain ⟨hsm, hsi⟩ := findS_mem hf
            obtain ⟨r1, -⟩ := HO.out.rel s hsm
            rw [hsi] at r1
            have R1 := Lib.hid r1
            obtain ⟨sl, hsl2⟩ : ∃ sl, sl = s.l := ⟨_, rfl⟩
            rw [← hsl2] at hsl R1
            have hnl : ¬ q' ≤ sl := by omega
            have HEE := Lib.hid he
            have HBL := Lib.hid hbl
            clear he ha1 hf hsi r1 hsl2 hsl hd0 hd1 hbl
            go_wp2_with fail
            refine HNT.out.mono ?_
            rintro e w3 ⟨rfl, clock', ss', t3, p3, f3⟩
            rw [errV_zero]
            have hpne : wr.heap.size ≠ p := by have := HO.out.tb.plt; omega
            have hbne : wr.heap.size ≠ b := by have := HO.out.tb.2.2.2.1.lt; omega
            have bx3 := (f3.block wr.heap.size hzx.out (by rintro (e | e); exact hpne e; exact hbne e)).trans hbx.out
            have il3 := HO1.out.il.framed HO1.out.tb hne1.out f3
            have is3 := HO1.out.is.framed HO1.out.tb hne2.out f3
            have l1 := il3.look Tryd.underlying26 (zeroI w3) W1.out
            rw [R1.out] at l1
            simp only [Option.getD_some] at l1
            have hlL := HO.out.ll
            have hlS := HO.out.ls
            obtain ⟨w4, run4, il4, g4, z4⟩ := il3.store Tryd.underlying26 (by unfold maxLen; omega) W1.out (.int .i64 q')
            have is4 := is3.mapped (by omega) g4
            obtain ⟨w5, run5, is5, g5, z5⟩ := is4.store Tryd.underlying27 (by unfold maxLen; omega) W1.out (.string (str bs))
            have hblt := il3.lt
            have hz3 := f3.size
            have hzz := hzx.out
            have hilt := HO.out.il.lt
            have bx4 := (g4.block wr.heap.size (by omega) (fun e => by have := Option.some.inj e; omega)).trans bx3
            have k1 : w3.cell? ⟨wr.heap.size, 1, none⟩ = some (.int .i64 id) := cell_of bx3 1
            have k2 : w3.cell? ⟨wr.heap.size, 2, none⟩ = some (.int .i64 q') := cell_of bx3 2
            have k3 : w4.cell? ⟨wr.heap.size, 1, none⟩ = some (.int .i64 id) := cell_of bx4 1
            have k4 : w4.cell? ⟨wr.heap.size, 3, none⟩ = some (.slice B bs.length cb) := cell_of bx4 3
            have B3 : Below w.heap.size w w3 := f3.bel HO1.out.bel hpw hbw
            have B4 := below_mapped B3 g4 hblw.out
            have e4 := run_str w4 B bs cb (by
              obtain ⟨B', c', hD, hrb, -⟩ := HRD.out
              cases hD
              refine hrb.step fun x hx h0 => ?_
              have hlt := hrb.lt hx h0
              have e3 := f3.block x.block hlt (by
                obtain ⟨g1, o1, hA, hlt1, hcell⟩ := hrb.addr h0
                rw [hx] at hA
                cases hA
                have hc0 := hcell 0 h0
                rintro (e | e)
                · simp only at e
                  subst e
                  obtain ⟨_, _, h2, _⟩ := HO1.out.tb
                  simp only [World.cell?, h2, Option.isSome_none, Bool.false_eq_true, ↓reduceIte] at hc0
                  match o1, hc0 with
                  | 0, hc0 => simp at hc0
                  | 1, hc0 => simp at hc0
                  | o + 2, hc0 => simp at hc0
                · simp only at e
                  subst e
                  obtain ⟨_, _, _, ⟨_, _, _, h2, _⟩, _⟩ := HO1.out.tb
                  simp only [World.cell?, h2, Option.isSome_none, Bool.false_eq_true, ↓reduceIte] at hc0
                  simp at hc0)
              rw [← e3]
              refine g4.block x.block (by omega) fun e => ?_
              obtain ⟨g1, o1, hA, hlt1, hcell⟩ := hrb.addr h0
              rw [hx] at hA
              cases hA
              have hc0 := hcell 0 h0
              have e := Option.some.inj e
              simp only at e
              subst e
              obtain ⟨_, _, _, h2, _⟩ := HO1.out.il
              simp only [World.cell?, h2, Option.isSome_none, Bool.false_eq_true, ↓reduceIte] at hc0
              simp at hc0) 9 Tryd.underlying9
            have HN := Lib.hid (show OS w p b bl (bl + 1) w5 (k + 1) clock' ss' (putI id (.int .i64 q') eL) (putI id (.string (str bs)) eS) by
              have t4 := t3.mapped il3 hne1.out g4
              have t5 := t4.mapped is4 hne2.out g5
              have B5 := below_mapped B4 g5 (by have := hblw.out; omega)
              have l1 := length_putI_le id (.int .i64 q') eL
              have l2 := length_putI_le id (.string (str bs)) eS
              have hck2 := HO.out.ck
              refine ⟨t5, HO.out.inv.note p3 W1.out W2.out, ?_, il4.mapped (by omega) g5, is5, by omega, by omega, fun s hs => ?_, B5⟩
              · rcases p3 with ⟨h, _⟩ | ⟨_, rfl, _⟩
                · exact absurd HEE.out h
                · omega
              · rcases p3 with ⟨h, _⟩ | ⟨_, _, A', c', rfl, _⟩
                · exact absurd HEE.out h
                · rcases mem_putS.1 hs with rfl | ⟨hs, hne⟩
                  · exact ⟨look_put_same il3.1, look_put_same is4.1⟩
                  · obtain ⟨r1, r2⟩ := HO.out.rel s hs
                    exact ⟨look_put_other il3.1 hne r1, look_put_other is4.1 hne r2⟩)
            clear il3 is3 il4 is4 is5 g4 g5 z4 z5 bx3 bx4 f3 t3 p3 hlL hlS hz3 hzz hpne hbne hblt B3 B4 hilt
            go_wp2_with fail
            go_roundg (200 - (k + 1))
            case measure => omega
            case rel => exact ⟨k + 1, _, _, _, _, rfl, by omega, by go_num, HN.out⟩
          · have hev : ∃ e, noteE ss id q' bs = e ∧ e ≠ 0 := ⟨_, rfl, he⟩
            obtain ⟨e1, he1, he2⟩ := hev
            have HEE := Lib.hid he
            rw [he1] at HNT
            have hev : errV e1 = .iface 48 (.int .i64 e1) := errV_pos e1 he2
            rw [hev] at HNT
            clear he he1 hev hd0 hd1
            go_wp2_with fail
            refine HNT.out.mono ?_
            rintro e w3 ⟨rfl, clock', ss', t3, p3, f3⟩
            have hsame : clock' = clock ∧ ss' = ss := by
              rcases p3 with ⟨_, h1, h2⟩ | ⟨h, _⟩
              · exact ⟨h1, h2⟩
              · exact absurd h HEE.out
            obtain ⟨rfl, rfl⟩ := hsame
            have HN := Lib.hid (show OS w p b bl (bl + 1) w3 (k + 1) clock' ss' eL eS from
              OS.succ ⟨t3, HO.out.inv, HO.out.ck, HO1.out.il.framed HO1.out.tb hne1.out f3, HO1.out.is.framed HO1.out.tb hne2.out f3, HO.out.ll, HO.out.ls, HO.out.rel, f3.bel HO1.out.bel hpw hbw⟩)
            clear t3 p3 f3
            go_wp2_with fail
            go_roundg (200 - (k + 1))
            case measure => omega
            case rel => exact ⟨k + 1, _, _, _, _, rfl, by omega, by go_num, HN.out⟩
    · have HLS := Lib.hid (list_any w.heap.size p b clock ss wr HO.out.tb (by have := HO.out.inv.len; omega))
      by_cases hk1 : k < n
      · have hk1i : (k : Int) < (n : Int) := by omega
        have hk2i : ¬ (k : Int) < 200 := by omega
        go_wp2_with fail
        refine HLS.out.mono ?_
        rintro e w3 ⟨v, ls, rfl, lo, b3⟩
        obtain ⟨A', c', rfl, -⟩ := own_shape lo.own
        have hln : ls.length ≤ 8 := by have h1 := congrArg List.length lo.same; have h2 := HO.out.inv.len; simp at h1; omega
        have hln2 : (ls.length : Int) ≤ 8 := by omega
        have HB := Lib.hid (below_then HO.out.bel HO.out.bel.size b3)
        clear lo b3 hkn
        go_wp2_with fail
        go_ret
        exact ⟨rfl, HB.out⟩
      · have hk1i : ¬ (k : Int) < (n : Int) := by omega
        go_wp2_with fail
        refine HLS.out.mono ?_
        rintro e w3 ⟨v, ls, rfl, lo, b3⟩
        obtain ⟨A', c', rfl, -⟩ := own_shape lo.own
        have hln : ls.length ≤ 8 := by have h1 := congrArg List.length lo.same; have h2 := HO.out.inv.len; simp at h1; omega
        have hln2 : (ls.length : Int) ≤ 8 := by omega
        have HB := Lib.hid (below_then HO.out.bel HO.out.bel.size b3)
        clear lo b3 hkn
        go_wp2_with fail
        go_ret
        exact ⟨rfl, HB.out⟩

theorem sessionOnce_row (A : Option Addr) (c : Nat) (av : List SV) (w : World) (hl : av.length ≤ c) (hn : c * 48 ≤ 140737488351232) (hr : RA w A av) (hE : ErrT w) :
    Calls Tryd.prog 3 #[.slice A av.length c] w fun e w' => e = .returned (.bool true) ∧ Below w.heap.size w w' :=
  sessionOnce_walk A _ c av w hE hr rfl (by omega)
end Go.Proofs.YtbdokphemdkhmaaDoor
