/- quorum.Change: where the arguments may be (printed by wip/gen/change.py). -/
import Derived.Test.YtaopipghooaekaaDoorQChange
set_option linter.unusedVariables false
set_option linter.unusedSimpArgs false
namespace Go.Proofs.YtaopipghooaekaaDoor
open Go.RowKit

theorem own_slice {w : World} {base : Nat} {e : TypeId} {n : Nat} {v : Value} {xs : List Value} (h : w.ownsRow base e 1 v n xs) (h0 : 1 ≤ n) : ∃ g cap, v = .slice (some ⟨g, 0, none⟩) n cap := by
  rcases h.2 with ⟨-, h1⟩ | ⟨g, cap, cur, h1, h2, h3, h4⟩
  · omega
  · exact ⟨g, cap, h1⟩

theorem insert_new (n i : Nat) (ns : List Int) (who : Int) (h0 : 1 ≤ n) (hin : i ≤ n) (hm1 : n ≤ 1000000000000) (te : TypeId) (w1 : World) (base : Nat) (v : Value) (h : w1.ownsRow base 3 1 v n (iv ns)) (hb : base ≤ w1.heap.size) :
    Calls Tryd.prog 35 #[v, .int .i64 i, .slice (some ⟨w1.heap.size, 0, none⟩) 1 1] (w1.alloc (.cells #[.int .i64 who] te)) fun e w' => ∃ V, e = .returned V ∧ OV w' base V (ns.take i ++ who :: ns.drop i) ∧ Below base w1 w' := by
  have b := below_alloc w1 (.cells #[.int .i64 who] te)
  refine (insert_any base n i v ns who w1.heap.size te _ (own_below h b) h0 hin hm1 (Nat.le_trans hb b.size) (by show (w1.heap.push _)[w1.heap.size]? = _; simp) (own_apart h)).mono ?_
  rintro e w' ⟨V, h1, h2, h3⟩
  exact ⟨V, h1, h2, (b.mono hb).trans h3⟩

set_option maxRecDepth 100000 in
set_option maxHeartbeats 2000000 in
theorem change_conf1 (A : Option Addr) (n c : Nat) (ns : List Int) (who : Int) (w : World) (hr : RI w A ns) (hl : ns.length = n) (hb : rightB ns = true) (hb2 : nodeB who = true) (his : ns.contains who = true) :
    Calls Tryd.prog 7 #[.agg #[.slice A n c], .int .i64 1, .int .i64 who] w (ChangePost w (93, [])) := by
  obtain ⟨wb, hwb⟩ : ∃ wb, wb = (w.alloc (.cells #[.slice A n c] 24)).alloc (.cells #[.slice none 0 0] 24) := ⟨_, rfl⟩
  have b : Below w.heap.size w wb := by rw [hwb]; exact (below_alloc w _).alloc (below_alloc w _).size _
  have hlen := right_len hb
  rw [hl] at hlen
  obtain ⟨h0, h5⟩ := hlen
  obtain ⟨i, hi⟩ : ∃ i, i = pos ns who := ⟨_, rfl⟩
  have hin : i ≤ n := by rw [hi, ← hl]; exact pos_le _ _
  have HW := Lib.hid hwb
  have HQ := Lib.hid fun (w1 : World) (h : Below wb.heap.size wb w1) => right_any A n c ns w1 ((hr.below b).below h) hl (by omega)
  have HN := Lib.hid (node_any who)
  have HK := Lib.hid (kind_any 1)
  have HS := Lib.hid fun (w1 : World) (h : Below wb.heap.size wb w1) => search_any A n c ns who w1 ((hr.below b).below h) hl h0 (by omega) (right_sorted hb)
  have HC := Lib.hid fun (w1 : World) (h : Below wb.heap.size wb w1) => clone_any A n c ns w1 ((hr.below b).below h) hl h0 (by omega)
  rw [show ns.countP (· < who) = i from hi.symm] at HS
  simp only [rightE_ok hb] at HQ
  simp only [hb2] at HN
  simp only [show kindB 1 = true from rfl] at HK
  rw [his] at HS
  clear hr hl hwb hb hb2 his
  go_enter Tryd.func7, Tryd.ntmps7
  go_wp2_with (first
        | (go_at_call 14; rw [← HW.out]; refine (HQ.out _ (Below.refl _ _)).mono ?_; rintro e w1 ⟨rfl, b1⟩; rw [errQ_zero]; obtain ⟨c1, c2, f2⟩ := box_facts HW.out b1)
        | (go_at_call 29; refine (HN.out _).mono ?_; rintro e w2 ⟨rfl, rfl⟩)
        | (go_at_call 30; refine (HK.out _ _).mono ?_; rintro e w2 ⟨rfl, b2⟩; have b12 := below_then b1 b1.size b2; clear c1 c2 f2; obtain ⟨c1, c2, f2⟩ := box_facts HW.out b12)
        | (go_at_call 31; refine (HS.out _ b12).mono ?_; rintro e w3 ⟨rfl, b3⟩; have b13 := below_then b12 b12.size b3; clear c1 c2 f2; obtain ⟨c1, c2, f2⟩ := box_facts HW.out b13)
        | (go_at_call 32; refine (HC.out _ b13).mono ?_; rintro e w4 ⟨v', rfl, ho, b4⟩; obtain ⟨g, cap, rfl⟩ := own_slice ho h0; have b14 := below_then b13 b13.size b4; clear c1 c2 f2; obtain ⟨c1, c2, f2⟩ := box_facts HW.out b14))
  have q := World.cell?_setCell_same _ _ (.slice none 0 0) c2
  have B1 := below_then b b.size b14
  exact bodyPost_ret (v := .tuple #[.agg #[.slice none 0 0], errQ 93]) (by simp [results, Tryd.results7, go_sem, q, errQ]) rfl ⟨_, rfl, OV.nil _ _, B1.setCell (by simp) _⟩

set_option maxRecDepth 100000 in
set_option maxHeartbeats 2000000 in
theorem change_conf2 (A : Option Addr) (n c : Nat) (ns : List Int) (who : Int) (w : World) (hr : RI w A ns) (hl : ns.length = n) (hb : rightB ns = true) (hb2 : nodeB who = true) (his : ns.contains who = false) :
    Calls Tryd.prog 7 #[.agg #[.slice A n c], .int .i64 2, .int .i64 who] w (ChangePost w (93, [])) := by
  obtain ⟨wb, hwb⟩ : ∃ wb, wb = (w.alloc (.cells #[.slice A n c] 24)).alloc (.cells #[.slice none 0 0] 24) := ⟨_, rfl⟩
  have b : Below w.heap.size w wb := by rw [hwb]; exact (below_alloc w _).alloc (below_alloc w _).size _
  have hlen := right_len hb
  rw [hl] at hlen
  obtain ⟨h0, h5⟩ := hlen
  obtain ⟨i, hi⟩ : ∃ i, i = pos ns who := ⟨_, rfl⟩
  have hin : i ≤ n := by rw [hi, ← hl]; exact pos_le _ _
  have HW := Lib.hid hwb
  have HQ := Lib.hid fun (w1 : World) (h : Below wb.heap.size wb w1) => right_any A n c ns w1 ((hr.below b).below h) hl (by omega)
  have HN := Lib.hid (node_any who)
  have HK := Lib.hid (kind_any 2)
  have HS := Lib.hid fun (w1 : World) (h : Below wb.heap.size wb w1) => search_any A n c ns who w1 ((hr.below b).below h) hl h0 (by omega) (right_sorted hb)
  have HC := Lib.hid fun (w1 : World) (h : Below wb.heap.size wb w1) => clone_any A n c ns w1 ((hr.below b).below h) hl h0 (by omega)
  rw [show ns.countP (· < who) = i from hi.symm] at HS
  simp only [rightE_ok hb] at HQ
  simp only [hb2] at HN
  simp only [show kindB 2 = true from rfl] at HK
  rw [his] at HS
  clear hr hl hwb hb hb2 his
  go_enter Tryd.func7, Tryd.ntmps7
  go_wp2_with (first
        | (go_at_call 14; rw [← HW.out]; refine (HQ.out _ (Below.refl _ _)).mono ?_; rintro e w1 ⟨rfl, b1⟩; rw [errQ_zero]; obtain ⟨c1, c2, f2⟩ := box_facts HW.out b1)
        | (go_at_call 29; refine (HN.out _).mono ?_; rintro e w2 ⟨rfl, rfl⟩)
        | (go_at_call 30; refine (HK.out _ _).mono ?_; rintro e w2 ⟨rfl, b2⟩; have b12 := below_then b1 b1.size b2; clear c1 c2 f2; obtain ⟨c1, c2, f2⟩ := box_facts HW.out b12)
        | (go_at_call 31; refine (HS.out _ b12).mono ?_; rintro e w3 ⟨rfl, b3⟩; have b13 := below_then b12 b12.size b3; clear c1 c2 f2; obtain ⟨c1, c2, f2⟩ := box_facts HW.out b13)
        | (go_at_call 32; refine (HC.out _ b13).mono ?_; rintro e w4 ⟨v', rfl, ho, b4⟩; obtain ⟨g, cap, rfl⟩ := own_slice ho h0; have b14 := below_then b13 b13.size b4; clear c1 c2 f2; obtain ⟨c1, c2, f2⟩ := box_facts HW.out b14))
  have q := World.cell?_setCell_same _ _ (.slice none 0 0) c2
  have B1 := below_then b b.size b14
  exact bodyPost_ret (v := .tuple #[.agg #[.slice none 0 0], errQ 93]) (by simp [results, Tryd.results7, go_sem, q, errQ]) rfl ⟨_, rfl, OV.nil _ _, B1.setCell (by simp) _⟩

set_option maxRecDepth 100000 in
set_option maxHeartbeats 2000000 in
theorem change_conf3 (A : Option Addr) (n c : Nat) (ns : List Int) (who : Int) (w : World) (hr : RI w A ns) (hl : ns.length = n) (hb : rightB ns = true) (hb2 : nodeB who = true) (his : ns.contains who = true) (hn1 : n = 1) :
    Calls Tryd.prog 7 #[.agg #[.slice A n c], .int .i64 2, .int .i64 who] w (ChangePost w (93, [])) := by
  obtain ⟨wb, hwb⟩ : ∃ wb, wb = (w.alloc (.cells #[.slice A n c] 24)).alloc (.cells #[.slice none 0 0] 24) := ⟨_, rfl⟩
  have b : Below w.heap.size w wb := by rw [hwb]; exact (below_alloc w _).alloc (below_alloc w _).size _
  have hlen := right_len hb
  rw [hl] at hlen
  obtain ⟨h0, h5⟩ := hlen
  obtain ⟨i, hi⟩ : ∃ i, i = pos ns who := ⟨_, rfl⟩
  have hin : i ≤ n := by rw [hi, ← hl]; exact pos_le _ _
  have HW := Lib.hid hwb
  have HQ := Lib.hid fun (w1 : World) (h : Below wb.heap.size wb w1) => right_any A n c ns w1 ((hr.below b).below h) hl (by omega)
  have HN := Lib.hid (node_any who)
  have HK := Lib.hid (kind_any 2)
  have HS := Lib.hid fun (w1 : World) (h : Below wb.heap.size wb w1) => search_any A n c ns who w1 ((hr.below b).below h) hl h0 (by omega) (right_sorted hb)
  have HC := Lib.hid fun (w1 : World) (h : Below wb.heap.size wb w1) => clone_any A n c ns w1 ((hr.below b).below h) hl h0 (by omega)
  rw [show ns.countP (· < who) = i from hi.symm] at HS
  simp only [rightE_ok hb] at HQ
  simp only [hb2] at HN
  simp only [show kindB 2 = true from rfl] at HK
  rw [his] at HS
  have HM := Lib.hid fun (w1 : World) => most_any A n c ((n : Int) - 1) w1 (by omega) (by omega) (by omega)
  rw [show mostB n ((n : Int) - 1) = false from by unfold mostB; simp only [decide_eq_true_eq, decide_eq_false_iff_not]; omega] at HM
  have HL := Lib.hid hl
  clear hr hl hwb hb hb2 his
  have hd : ((n : Int) == 1) = true := by rw [hn1]; rfl
  clear hn1
  go_enter Tryd.func7, Tryd.ntmps7
  go_wp2_with (first
        | (go_at_call 14; rw [← HW.out]; refine (HQ.out _ (Below.refl _ _)).mono ?_; rintro e w1 ⟨rfl, b1⟩; rw [errQ_zero]; obtain ⟨c1, c2, f2⟩ := box_facts HW.out b1)
        | (go_at_call 29; refine (HN.out _).mono ?_; rintro e w2 ⟨rfl, rfl⟩)
        | (go_at_call 30; refine (HK.out _ _).mono ?_; rintro e w2 ⟨rfl, b2⟩; have b12 := below_then b1 b1.size b2; clear c1 c2 f2; obtain ⟨c1, c2, f2⟩ := box_facts HW.out b12)
        | (go_at_call 31; refine (HS.out _ b12).mono ?_; rintro e w3 ⟨rfl, b3⟩; have b13 := below_then b12 b12.size b3; clear c1 c2 f2; obtain ⟨c1, c2, f2⟩ := box_facts HW.out b13)
        | (go_at_call 32; refine (HC.out _ b13).mono ?_; rintro e w4 ⟨v', rfl, ho, b4⟩; obtain ⟨g, cap, rfl⟩ := own_slice ho h0; have b14 := below_then b13 b13.size b4; clear c1 c2 f2; obtain ⟨c1, c2, f2⟩ := box_facts HW.out b14)
        | (go_at_call 33; refine (HM.out _).mono ?_; rintro e w5 ⟨rfl, b5⟩; have b15 := below_then b14 b14.size b5; have ho5 := own_below ho b5; clear c1 c2 f2; obtain ⟨c1, c2, f2⟩ := box_facts HW.out b15))
  have q := World.cell?_setCell_same _ _ (.slice none 0 0) c2
  have B1 := below_then b b.size b15
  exact bodyPost_ret (v := .tuple #[.agg #[.slice none 0 0], errQ 93]) (by simp [results, Tryd.results7, go_sem, q, errQ]) rfl ⟨_, rfl, OV.nil _ _, B1.setCell (by simp) _⟩

set_option maxRecDepth 100000 in
set_option maxHeartbeats 2000000 in
theorem change_drop2 (A : Option Addr) (n c : Nat) (ns : List Int) (who : Int) (w : World) (hr : RI w A ns) (hl : ns.length = n) (hb : rightB ns = true) (hb2 : nodeB who = true) (his : ns.contains who = true) (hn1 : n = 2) :
    Calls Tryd.prog 7 #[.agg #[.slice A n c], .int .i64 2, .int .i64 who] w (ChangePost w (0, ns.take (pos ns who) ++ ns.drop (pos ns who + 1))) := by
  obtain ⟨wb, hwb⟩ : ∃ wb, wb = (w.alloc (.cells #[.slice A n c] 24)).alloc (.cells #[.slice none 0 0] 24) := ⟨_, rfl⟩
  have b : Below w.heap.size w wb := by rw [hwb]; exact (below_alloc w _).alloc (below_alloc w _).size _
  have hlen := right_len hb
  rw [hl] at hlen
  obtain ⟨h0, h5⟩ := hlen
  obtain ⟨i, hi⟩ : ∃ i, i = pos ns who := ⟨_, rfl⟩
  have hin : i ≤ n := by rw [hi, ← hl]; exact pos_le _ _
  have hil : i < n := by rw [hi, ← hl]; exact pos_lt his
  have HW := Lib.hid hwb
  have HQ := Lib.hid fun (w1 : World) (h : Below wb.heap.size wb w1) => right_any A n c ns w1 ((hr.below b).below h) hl (by omega)
  have HN := Lib.hid (node_any who)
  have HK := Lib.hid (kind_any 2)
  have HS := Lib.hid fun (w1 : World) (h : Below wb.heap.size wb w1) => search_any A n c ns who w1 ((hr.below b).below h) hl h0 (by omega) (right_sorted hb)
  have HC := Lib.hid fun (w1 : World) (h : Below wb.heap.size wb w1) => clone_any A n c ns w1 ((hr.below b).below h) hl h0 (by omega)
  rw [show ns.countP (· < who) = i from hi.symm] at HS
  simp only [rightE_ok hb] at HQ
  simp only [hb2] at HN
  simp only [show kindB 2 = true from rfl] at HK
  rw [his] at HS
  have HM := Lib.hid fun (w1 : World) => most_any A n c ((n : Int) - 1) w1 (by omega) (by omega) (by omega)
  rw [show mostB n ((n : Int) - 1) = false from by unfold mostB; simp only [decide_eq_true_eq, decide_eq_false_iff_not]; omega] at HM
  have HL := Lib.hid hl
  have HD := Lib.hid fun (w1 : World) (base : Nat) (v : Value) (h : w1.ownsRow base 3 1 v n (iv ns)) (hb : base ≤ w1.heap.size) => delete_any base n i v ns w1 h hil hb
  simp only [Int.natCast_add, Int.natCast_one] at HD
  clear hr hl hwb hb hb2 his
  have hd : ((n : Int) == 1) = false := beq_eq_false_iff_ne.2 (by omega)
  rw [← hi]
  clear hi hn1
  go_enter Tryd.func7, Tryd.ntmps7
  go_wp2_with (first
        | (go_at_call 14; rw [← HW.out]; refine (HQ.out _ (Below.refl _ _)).mono ?_; rintro e w1 ⟨rfl, b1⟩; rw [errQ_zero]; obtain ⟨c1, c2, f2⟩ := box_facts HW.out b1)
        | (go_at_call 29; refine (HN.out _).mono ?_; rintro e w2 ⟨rfl, rfl⟩)
        | (go_at_call 30; refine (HK.out _ _).mono ?_; rintro e w2 ⟨rfl, b2⟩; have b12 := below_then b1 b1.size b2; clear c1 c2 f2; obtain ⟨c1, c2, f2⟩ := box_facts HW.out b12)
        | (go_at_call 31; refine (HS.out _ b12).mono ?_; rintro e w3 ⟨rfl, b3⟩; have b13 := below_then b12 b12.size b3; clear c1 c2 f2; obtain ⟨c1, c2, f2⟩ := box_facts HW.out b13)
        | (go_at_call 32; refine (HC.out _ b13).mono ?_; rintro e w4 ⟨v', rfl, ho, b4⟩; obtain ⟨g, cap, rfl⟩ := own_slice ho h0; have b14 := below_then b13 b13.size b4; clear c1 c2 f2; obtain ⟨c1, c2, f2⟩ := box_facts HW.out b14)
        | (go_at_call 33; refine (HM.out _).mono ?_; rintro e w5 ⟨rfl, b5⟩; have b15 := below_then b14 b14.size b5; have ho5 := own_below ho b5; clear c1 c2 f2; obtain ⟨c1, c2, f2⟩ := box_facts HW.out b15)
        | (go_at_call 34; refine (HD.out _ _ _ ho5 (by have := b4.size; have := b5.size; omega)).mono ?_; rintro e w6 ⟨V, rfl, hov, b6⟩; obtain ⟨A6, m6, c6, rfl⟩ : ∃ A m c, V = .slice A m c := (by obtain ⟨A6, c6, h, -⟩ := hov; exact ⟨_, _, _, h⟩); have b16 := b15.trans (b6.mono b13.size); clear c1 c2 f2; obtain ⟨c1, c2, f2⟩ := box_facts HW.out b16))
  have q := World.cell?_setCell_same _ _ (.slice A6 m6 c6) c2
  have B1 := below_then b b.size b16
  have hbs : w.heap.size + 1 < w3.heap.size := by
    have h1 := b13.size
    rw [HW.out] at h1
    simp at h1
    omega
  exact bodyPost_ret (v := .tuple #[.agg #[.slice A6 m6 c6], errQ 0]) (by simp [results, Tryd.results7, go_sem, q, errQ]) rfl ⟨_, rfl, (hov.setCell (by exact hbs) _).mono (by omega), B1.setCell (by simp) _⟩

set_option maxRecDepth 100000 in
set_option maxHeartbeats 2000000 in
theorem change_drop3 (A : Option Addr) (n c : Nat) (ns : List Int) (who : Int) (w : World) (hr : RI w A ns) (hl : ns.length = n) (hb : rightB ns = true) (hb2 : nodeB who = true) (his : ns.contains who = true) (hn1 : 3 ≤ n) :
    Calls Tryd.prog 7 #[.agg #[.slice A n c], .int .i64 2, .int .i64 who] w (ChangePost w (0, ns.take (pos ns who) ++ ns.drop (pos ns who + 1))) := by
  obtain ⟨wb, hwb⟩ : ∃ wb, wb = (w.alloc (.cells #[.slice A n c] 24)).alloc (.cells #[.slice none 0 0] 24) := ⟨_, rfl⟩
  have b : Below w.heap.size w wb := by rw [hwb]; exact (below_alloc w _).alloc (below_alloc w _).size _
  have hlen := right_len hb
  rw [hl] at hlen
  obtain ⟨h0, h5⟩ := hlen
  obtain ⟨i, hi⟩ : ∃ i, i = pos ns who := ⟨_, rfl⟩
  have hin : i ≤ n := by rw [hi, ← hl]; exact pos_le _ _
  have hil : i < n := by rw [hi, ← hl]; exact pos_lt his
  have HW := Lib.hid hwb
  have HQ := Lib.hid fun (w1 : World) (h : Below wb.heap.size wb w1) => right_any A n c ns w1 ((hr.below b).below h) hl (by omega)
  have HN := Lib.hid (node_any who)
  have HK := Lib.hid (kind_any 2)
  have HS := Lib.hid fun (w1 : World) (h : Below wb.heap.size wb w1) => search_any A n c ns who w1 ((hr.below b).below h) hl h0 (by omega) (right_sorted hb)
  have HC := Lib.hid fun (w1 : World) (h : Below wb.heap.size wb w1) => clone_any A n c ns w1 ((hr.below b).below h) hl h0 (by omega)
  rw [show ns.countP (· < who) = i from hi.symm] at HS
  simp only [rightE_ok hb] at HQ
  simp only [hb2] at HN
  simp only [show kindB 2 = true from rfl] at HK
  rw [his] at HS
  have HM := Lib.hid fun (w1 : World) => most_any A n c ((n : Int) - 1) w1 (by omega) (by omega) (by omega)
  rw [show mostB n ((n : Int) - 1) = true from by unfold mostB; simp only [decide_eq_true_eq, decide_eq_false_iff_not]; omega] at HM
  have HL := Lib.hid hl
  have HD := Lib.hid fun (w1 : World) (base : Nat) (v : Value) (h : w1.ownsRow base 3 1 v n (iv ns)) (hb : base ≤ w1.heap.size) => delete_any base n i v ns w1 h hil hb
  simp only [Int.natCast_add, Int.natCast_one] at HD
  clear hr hl hwb hb hb2 his
  have hd : ((n : Int) == 1) = false := beq_eq_false_iff_ne.2 (by omega)
  rw [← hi]
  clear hi hn1
  go_enter Tryd.func7, Tryd.ntmps7
  go_wp2_with (first
        | (go_at_call 14; rw [← HW.out]; refine (HQ.out _ (Below.refl _ _)).mono ?_; rintro e w1 ⟨rfl, b1⟩; rw [errQ_zero]; obtain ⟨c1, c2, f2⟩ := box_facts HW.out b1)
        | (go_at_call 29; refine (HN.out _).mono ?_; rintro e w2 ⟨rfl, rfl⟩)
        | (go_at_call 30; refine (HK.out _ _).mono ?_; rintro e w2 ⟨rfl, b2⟩; have b12 := below_then b1 b1.size b2; clear c1 c2 f2; obtain ⟨c1, c2, f2⟩ := box_facts HW.out b12)
        | (go_at_call 31; refine (HS.out _ b12).mono ?_; rintro e w3 ⟨rfl, b3⟩; have b13 := below_then b12 b12.size b3; clear c1 c2 f2; obtain ⟨c1, c2, f2⟩ := box_facts HW.out b13)
        | (go_at_call 32; refine (HC.out _ b13).mono ?_; rintro e w4 ⟨v', rfl, ho, b4⟩; obtain ⟨g, cap, rfl⟩ := own_slice ho h0; have b14 := below_then b13 b13.size b4; clear c1 c2 f2; obtain ⟨c1, c2, f2⟩ := box_facts HW.out b14)
        | (go_at_call 33; refine (HM.out _).mono ?_; rintro e w5 ⟨rfl, b5⟩; have b15 := below_then b14 b14.size b5; have ho5 := own_below ho b5; clear c1 c2 f2; obtain ⟨c1, c2, f2⟩ := box_facts HW.out b15)
        | (go_at_call 34; refine (HD.out _ _ _ ho5 (by have := b4.size; have := b5.size; omega)).mono ?_; rintro e w6 ⟨V, rfl, hov, b6⟩; obtain ⟨A6, m6, c6, rfl⟩ : ∃ A m c, V = .slice A m c := (by obtain ⟨A6, c6, h, -⟩ := hov; exact ⟨_, _, _, h⟩); have b16 := b15.trans (b6.mono b13.size); clear c1 c2 f2; obtain ⟨c1, c2, f2⟩ := box_facts HW.out b16))
  have q := World.cell?_setCell_same _ _ (.slice A6 m6 c6) c2
  have B1 := below_then b b.size b16
  have hbs : w.heap.size + 1 < w3.heap.size := by
    have h1 := b13.size
    rw [HW.out] at h1
    simp at h1
    omega
  exact bodyPost_ret (v := .tuple #[.agg #[.slice A6 m6 c6], errQ 0]) (by simp [results, Tryd.results7, go_sem, q, errQ]) rfl ⟨_, rfl, (hov.setCell (by exact hbs) _).mono (by omega), B1.setCell (by simp) _⟩

set_option maxRecDepth 100000 in
set_option maxHeartbeats 2000000 in
theorem change_add1 (A : Option Addr) (n c : Nat) (ns : List Int) (who : Int) (w : World) (hr : RI w A ns) (hl : ns.length = n) (hb : rightB ns = true) (hb2 : nodeB who = true) (his : ns.contains who = false) (hn1 : n = 1) :
    Calls Tryd.prog 7 #[.agg #[.slice A n c], .int .i64 1, .int .i64 who] w (ChangePost w (0, ns.take (pos ns who) ++ who :: ns.drop (pos ns who))) := by
  obtain ⟨wb, hwb⟩ : ∃ wb, wb = (w.alloc (.cells #[.slice A n c] 24)).alloc (.cells #[.slice none 0 0] 24) := ⟨_, rfl⟩
  have b : Below w.heap.size w wb := by rw [hwb]; exact (below_alloc w _).alloc (below_alloc w _).size _
  have hlen := right_len hb
  rw [hl] at hlen
  obtain ⟨h0, h5⟩ := hlen
  obtain ⟨i, hi⟩ : ∃ i, i = pos ns who := ⟨_, rfl⟩
  have hin : i ≤ n := by rw [hi, ← hl]; exact pos_le _ _
  have HW := Lib.hid hwb
  have HQ := Lib.hid fun (w1 : World) (h : Below wb.heap.size wb w1) => right_any A n c ns w1 ((hr.below b).below h) hl (by omega)
  have HN := Lib.hid (node_any who)
  have HK := Lib.hid (kind_any 1)
  have HS := Lib.hid fun (w1 : World) (h : Below wb.heap.size wb w1) => search_any A n c ns who w1 ((hr.below b).below h) hl h0 (by omega) (right_sorted hb)
  have HC := Lib.hid fun (w1 : World) (h : Below wb.heap.size wb w1) => clone_any A n c ns w1 ((hr.below b).below h) hl h0 (by omega)
  rw [show ns.countP (· < who) = i from hi.symm] at HS
  simp only [rightE_ok hb] at HQ
  simp only [hb2] at HN
  simp only [show kindB 1 = true from rfl] at HK
  rw [his] at HS
  have HM := Lib.hid fun (w1 : World) => most_any A n c ((n : Int) - 1) w1 (by omega) (by omega) (by omega)
  rw [show mostB n ((n : Int) - 1) = false from by unfold mostB; simp only [decide_eq_true_eq, decide_eq_false_iff_not]; omega] at HM
  have HL := Lib.hid hl
  have HI := Lib.hid (insert_new n i ns who h0 hin (by omega))
  clear hr hl hwb hb hb2 his
  have hd : ((n : Int) == 1) = true := by rw [hn1]; rfl
  rw [← hi]
  clear hi hn1
  go_enter Tryd.func7, Tryd.ntmps7
  go_wp2_with (first
        | (go_at_call 14; rw [← HW.out]; refine (HQ.out _ (Below.refl _ _)).mono ?_; rintro e w1 ⟨rfl, b1⟩; rw [errQ_zero]; obtain ⟨c1, c2, f2⟩ := box_facts HW.out b1)
        | (go_at_call 29; refine (HN.out _).mono ?_; rintro e w2 ⟨rfl, rfl⟩)
        | (go_at_call 30; refine (HK.out _ _).mono ?_; rintro e w2 ⟨rfl, b2⟩; have b12 := below_then b1 b1.size b2; clear c1 c2 f2; obtain ⟨c1, c2, f2⟩ := box_facts HW.out b12)
        | (go_at_call 31; refine (HS.out _ b12).mono ?_; rintro e w3 ⟨rfl, b3⟩; have b13 := below_then b12 b12.size b3; clear c1 c2 f2; obtain ⟨c1, c2, f2⟩ := box_facts HW.out b13)
        | (go_at_call 32; refine (HC.out _ b13).mono ?_; rintro e w4 ⟨v', rfl, ho, b4⟩; obtain ⟨g, cap, rfl⟩ := own_slice ho h0; have b14 := below_then b13 b13.size b4; clear c1 c2 f2; obtain ⟨c1, c2, f2⟩ := box_facts HW.out b14)
        | (go_at_call 33; refine (HM.out _).mono ?_; rintro e w5 ⟨rfl, b5⟩; have b15 := below_then b14 b14.size b5; have ho5 := own_below ho b5; clear c1 c2 f2; obtain ⟨c1, c2, f2⟩ := box_facts HW.out b15)
        | (go_at_call 35; refine (HI.out _ _ _ _ ho5 (by have := b4.size; have := b5.size; omega)).mono ?_; rintro e w6 ⟨V, rfl, hov, b6⟩; obtain ⟨A6, m6, c6, rfl⟩ : ∃ A m c, V = .slice A m c := (by obtain ⟨A6, c6, h, -⟩ := hov; exact ⟨_, _, _, h⟩); have b16 := b15.trans (b6.mono b13.size); clear c1 c2 f2; obtain ⟨c1, c2, f2⟩ := box_facts HW.out b16))
  have q := World.cell?_setCell_same _ _ (.slice A6 m6 c6) c2
  have B1 := below_then b b.size b16
  have hbs : w.heap.size + 1 < w3.heap.size := by
    have h1 := b13.size
    rw [HW.out] at h1
    simp at h1
    omega
  exact bodyPost_ret (v := .tuple #[.agg #[.slice A6 m6 c6], errQ 0]) (by simp [results, Tryd.results7, go_sem, q, errQ]) rfl ⟨_, rfl, (hov.setCell (by exact hbs) _).mono (by omega), B1.setCell (by simp) _⟩

set_option maxRecDepth 100000 in
set_option maxHeartbeats 2000000 in
theorem change_add2 (A : Option Addr) (n c : Nat) (ns : List Int) (who : Int) (w : World) (hr : RI w A ns) (hl : ns.length = n) (hb : rightB ns = true) (hb2 : nodeB who = true) (his : ns.contains who = false) (hn1 : n = 2) :
    Calls Tryd.prog 7 #[.agg #[.slice A n c], .int .i64 1, .int .i64 who] w (ChangePost w (0, ns.take (pos ns who) ++ who :: ns.drop (pos ns who))) := by
  obtain ⟨wb, hwb⟩ : ∃ wb, wb = (w.alloc (.cells #[.slice A n c] 24)).alloc (.cells #[.slice none 0 0] 24) := ⟨_, rfl⟩
  have b : Below w.heap.size w wb := by rw [hwb]; exact (below_alloc w _).alloc (below_alloc w _).size _
  have hlen := right_len hb
  rw [hl] at hlen
  obtain ⟨h0, h5⟩ := hlen
  obtain ⟨i, hi⟩ : ∃ i, i = pos ns who := ⟨_, rfl⟩
  have hin : i ≤ n := by rw [hi, ← hl]; exact pos_le _ _
  have HW := Lib.hid hwb
  have HQ := Lib.hid fun (w1 : World) (h : Below wb.heap.size wb w1) => right_any A n c ns w1 ((hr.below b).below h) hl (by omega)
  have HN := Lib.hid (node_any who)
  have HK := Lib.hid (kind_any 1)
  have HS := Lib.hid fun (w1 : World) (h : Below wb.heap.size wb w1) => search_any A n c ns who w1 ((hr.below b).below h) hl h0 (by omega) (right_sorted hb)
  have HC := Lib.hid fun (w1 : World) (h : Below wb.heap.size wb w1) => clone_any A n c ns w1 ((hr.below b).below h) hl h0 (by omega)
  rw [show ns.countP (· < who) = i from hi.symm] at HS
  simp only [rightE_ok hb] at HQ
  simp only [hb2] at HN
  simp only [show kindB 1 = true from rfl] at HK
  rw [his] at HS
  have HM := Lib.hid fun (w1 : World) => most_any A n c ((n : Int) - 1) w1 (by omega) (by omega) (by omega)
  rw [show mostB n ((n : Int) - 1) = false from by unfold mostB; simp only [decide_eq_true_eq, decide_eq_false_iff_not]; omega] at HM
  have HL := Lib.hid hl
  have HI := Lib.hid (insert_new n i ns who h0 hin (by omega))
  clear hr hl hwb hb hb2 his
  have hd : ((n : Int) == 1) = false := beq_eq_false_iff_ne.2 (by omega)
  rw [← hi]
  clear hi hn1
  go_enter Tryd.func7, Tryd.ntmps7
  go_wp2_with (first
        | (go_at_call 14; rw [← HW.out]; refine (HQ.out _ (Below.refl _ _)).mono ?_; rintro e w1 ⟨rfl, b1⟩; rw [errQ_zero]; obtain ⟨c1, c2, f2⟩ := box_facts HW.out b1)
        | (go_at_call 29; refine (HN.out _).mono ?_; rintro e w2 ⟨rfl, rfl⟩)
        | (go_at_call 30; refine (HK.out _ _).mono ?_; rintro e w2 ⟨rfl, b2⟩; have b12 := below_then b1 b1.size b2; clear c1 c2 f2; obtain ⟨c1, c2, f2⟩ := box_facts HW.out b12)
        | (go_at_call 31; refine (HS.out _ b12).mono ?_; rintro e w3 ⟨rfl, b3⟩; have b13 := below_then b12 b12.size b3; clear c1 c2 f2; obtain ⟨c1, c2, f2⟩ := box_facts HW.out b13)
        | (go_at_call 32; refine (HC.out _ b13).mono ?_; rintro e w4 ⟨v', rfl, ho, b4⟩; obtain ⟨g, cap, rfl⟩ := own_slice ho h0; have b14 := below_then b13 b13.size b4; clear c1 c2 f2; obtain ⟨c1, c2, f2⟩ := box_facts HW.out b14)
        | (go_at_call 33; refine (HM.out _).mono ?_; rintro e w5 ⟨rfl, b5⟩; have b15 := below_then b14 b14.size b5; have ho5 := own_below ho b5; clear c1 c2 f2; obtain ⟨c1, c2, f2⟩ := box_facts HW.out b15)
        | (go_at_call 35; refine (HI.out _ _ _ _ ho5 (by have := b4.size; have := b5.size; omega)).mono ?_; rintro e w6 ⟨V, rfl, hov, b6⟩; obtain ⟨A6, m6, c6, rfl⟩ : ∃ A m c, V = .slice A m c := (by obtain ⟨A6, c6, h, -⟩ := hov; exact ⟨_, _, _, h⟩); have b16 := b15.trans (b6.mono b13.size); clear c1 c2 f2; obtain ⟨c1, c2, f2⟩ := box_facts HW.out b16))
  have q := World.cell?_setCell_same _ _ (.slice A6 m6 c6) c2
  have B1 := below_then b b.size b16
  have hbs : w.heap.size + 1 < w3.heap.size := by
    have h1 := b13.size
    rw [HW.out] at h1
    simp at h1
    omega
  exact bodyPost_ret (v := .tuple #[.agg #[.slice A6 m6 c6], errQ 0]) (by simp [results, Tryd.results7, go_sem, q, errQ]) rfl ⟨_, rfl, (hov.setCell (by exact hbs) _).mono (by omega), B1.setCell (by simp) _⟩

set_option maxRecDepth 100000 in
set_option maxHeartbeats 2000000 in
theorem change_add3 (A : Option Addr) (n c : Nat) (ns : List Int) (who : Int) (w : World) (hr : RI w A ns) (hl : ns.length = n) (hb : rightB ns = true) (hb2 : nodeB who = true) (his : ns.contains who = false) (hn1 : 3 ≤ n) :
    Calls Tryd.prog 7 #[.agg #[.slice A n c], .int .i64 1, .int .i64 who] w (ChangePost w (0, ns.take (pos ns who) ++ who :: ns.drop (pos ns who))) := by
  obtain ⟨wb, hwb⟩ : ∃ wb, wb = (w.alloc (.cells #[.slice A n c] 24)).alloc (.cells #[.slice none 0 0] 24) := ⟨_, rfl⟩
  have b : Below w.heap.size w wb := by rw [hwb]; exact (below_alloc w _).alloc (below_alloc w _).size _
  have hlen := right_len hb
  rw [hl] at hlen
  obtain ⟨h0, h5⟩ := hlen
  obtain ⟨i, hi⟩ : ∃ i, i = pos ns who := ⟨_, rfl⟩
  have hin : i ≤ n := by rw [hi, ← hl]; exact pos_le _ _
  have HW := Lib.hid hwb
  have HQ := Lib.hid fun (w1 : World) (h : Below wb.heap.size wb w1) => right_any A n c ns w1 ((hr.below b).below h) hl (by omega)
  have HN := Lib.hid (node_any who)
  have HK := Lib.hid (kind_any 1)
  have HS := Lib.hid fun (w1 : World) (h : Below wb.heap.size wb w1) => search_any A n c ns who w1 ((hr.below b).below h) hl h0 (by omega) (right_sorted hb)
  have HC := Lib.hid fun (w1 : World) (h : Below wb.heap.size wb w1) => clone_any A n c ns w1 ((hr.below b).below h) hl h0 (by omega)
  rw [show ns.countP (· < who) = i from hi.symm] at HS
  simp only [rightE_ok hb] at HQ
  simp only [hb2] at HN
  simp only [show kindB 1 = true from rfl] at HK
  rw [his] at HS
  have HM := Lib.hid fun (w1 : World) => most_any A n c ((n : Int) - 1) w1 (by omega) (by omega) (by omega)
  rw [show mostB n ((n : Int) - 1) = true from by unfold mostB; simp only [decide_eq_true_eq, decide_eq_false_iff_not]; omega] at HM
  have HL := Lib.hid hl
  have HI := Lib.hid (insert_new n i ns who h0 hin (by omega))
  clear hr hl hwb hb hb2 his
  have hd : ((n : Int) == 1) = false := beq_eq_false_iff_ne.2 (by omega)
  rw [← hi]
  clear hi hn1
  go_enter Tryd.func7, Tryd.ntmps7
  go_wp2_with (first
        | (go_at_call 14; rw [← HW.out]; refine (HQ.out _ (Below.refl _ _)).mono ?_; rintro e w1 ⟨rfl, b1⟩; rw [errQ_zero]; obtain ⟨c1, c2, f2⟩ := box_facts HW.out b1)
        | (go_at_call 29; refine (HN.out _).mono ?_; rintro e w2 ⟨rfl, rfl⟩)
        | (go_at_call 30; refine (HK.out _ _).mono ?_; rintro e w2 ⟨rfl, b2⟩; have b12 := below_then b1 b1.size b2; clear c1 c2 f2; obtain ⟨c1, c2, f2⟩ := box_facts HW.out b12)
        | (go_at_call 31; refine (HS.out _ b12).mono ?_; rintro e w3 ⟨rfl, b3⟩; have b13 := below_then b12 b12.size b3; clear c1 c2 f2; obtain ⟨c1, c2, f2⟩ := box_facts HW.out b13)
        | (go_at_call 32; refine (HC.out _ b13).mono ?_; rintro e w4 ⟨v', rfl, ho, b4⟩; obtain ⟨g, cap, rfl⟩ := own_slice ho h0; have b14 := below_then b13 b13.size b4; clear c1 c2 f2; obtain ⟨c1, c2, f2⟩ := box_facts HW.out b14)
        | (go_at_call 33; refine (HM.out _).mono ?_; rintro e w5 ⟨rfl, b5⟩; have b15 := below_then b14 b14.size b5; have ho5 := own_below ho b5; clear c1 c2 f2; obtain ⟨c1, c2, f2⟩ := box_facts HW.out b15)
        | (go_at_call 35; refine (HI.out _ _ _ _ ho5 (by have := b4.size; have := b5.size; omega)).mono ?_; rintro e w6 ⟨V, rfl, hov, b6⟩; obtain ⟨A6, m6, c6, rfl⟩ : ∃ A m c, V = .slice A m c := (by obtain ⟨A6, c6, h, -⟩ := hov; exact ⟨_, _, _, h⟩); have b16 := b15.trans (b6.mono b13.size); clear c1 c2 f2; obtain ⟨c1, c2, f2⟩ := box_facts HW.out b16))
  have q := World.cell?_setCell_same _ _ (.slice A6 m6 c6) c2
  have B1 := below_then b b.size b16
  have hbs : w.heap.size + 1 < w3.heap.size := by
    have h1 := b13.size
    rw [HW.out] at h1
    simp at h1
    omega
  exact bodyPost_ret (v := .tuple #[.agg #[.slice A6 m6 c6], errQ 0]) (by simp [results, Tryd.results7, go_sem, q, errQ]) rfl ⟨_, rfl, (hov.setCell (by exact hbs) _).mono (by omega), B1.setCell (by simp) _⟩

theorem change_any (A : Option Addr) (n c : Nat) (ns : List Int) (kind who : Int) (w : World) (hr : RI w A ns) (hl : ns.length = n) (hn : n ≤ 100000000000000) :
    Calls Tryd.prog 7 #[.agg #[.slice A n c], .int .i64 kind, .int .i64 who] w (ChangePost w (changeT ns kind who)) := by
  cases hb : rightB ns with
  | false => rw [show changeT ns kind who = (1, []) by simp [changeT, hb]]; exact change_bad A n c ns kind who w hr hl hn (.inl hb)
  | true =>
    cases hb2 : nodeB who with
    | false => rw [show changeT ns kind who = (1, []) by simp [changeT, hb2]]; exact change_bad A n c ns kind who w hr hl hn (.inr (.inl hb2))
    | true =>
      cases hk : kindB kind with
      | false => rw [show changeT ns kind who = (1, []) by simp [changeT, hk]]; exact change_bad A n c ns kind who w hr hl hn (.inr (.inr hk))
      | true =>
        have hlen := right_len hb
        rw [hl] at hlen
        rcases of_decide_eq_true hk with rfl | rfl
        · cases his : ns.contains who with
          | true =>
            rw [show changeT ns 1 who = (93, []) by simp only [changeT, hb, hb2, hk, his]; rfl]
            exact change_conf1 A n c ns who w hr hl hb hb2 his
          | false =>
            rw [show changeT ns 1 who = (0, ns.take (pos ns who) ++ who :: ns.drop (pos ns who)) by simp only [changeT, hb, hb2, hk, his]; simp]
            rcases (show n = 1 ∨ n = 2 ∨ 3 ≤ n by omega) with h | h | h
            · exact change_add1 A n c ns who w hr hl hb hb2 his h
            · exact change_add2 A n c ns who w hr hl hb hb2 his h
            · exact change_add3 A n c ns who w hr hl hb hb2 his h
        · cases his : ns.contains who with
          | false =>
            rw [show changeT ns 2 who = (93, []) by simp only [changeT, hb, hb2, hk, his]; rfl]
            exact change_conf2 A n c ns who w hr hl hb hb2 his
          | true =>
            by_cases h1 : n = 1
            · rw [show changeT ns 2 who = (93, []) by simp only [changeT, hb, hb2, hk, his, hl, h1]; rfl]
              exact change_conf3 A n c ns who w hr hl hb hb2 his h1
            · rw [show changeT ns 2 who = (0, ns.take (pos ns who) ++ ns.drop (pos ns who + 1)) by simp only [changeT, hb, hb2, hk, his, hl, h1]; simp]
              rcases (show n = 2 ∨ 3 ≤ n by omega) with h | h
              · exact change_drop2 A n c ns who w hr hl hb hb2 his h
              · exact change_drop3 A n c ns who w hr hl hb hb2 his h
end Go.Proofs.YtaopipghooaekaaDoor
