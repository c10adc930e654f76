/- muntinref16.Table: Note. -/
import Derived.Test.YtbdokphemdkhmaaDoorSRef3
set_option linter.unusedVariables false
set_option linter.unusedSimpArgs false
namespace Go.Proofs.YtbdokphemdkhmaaDoor
open Go.RowKit

/-- 'append' of bytes, by what it runs to -/
theorem step_append_runb {ops : Array Oper} {o : Oper} {a : Act} {w : World} {K : Act → World → Prop} {Q : Exit → Act → World → Prop} {E : Prop} (hgd : o.guard = none) (s x : Operand)
    (ho : o.op = .call { callee := .builtin .append, args := #[s, x], argTypes := #[28, 28] }) (hty : o.type = 28) (v src : Value) (hs : a.eval s = v) (hx : a.eval x = src) (v' : Value) (w' : World)
    (hrun : (Builtin.append_ #[28, 28] 28 #[v, src]).run Tryd.prog w = .ok v' w') (h : K (a.put o.dst v') w') : if Region.wanted o (yielded ops a.tmps) = true then Oper.wp Tryd.prog o a w K Q else E := by
  rw [if_pos (by simp [Region.wanted, hgd])]
  rw [← hty] at hrun
  have hr : (Builtin.append_ #[28, 28] o.type #[v, src]).run Tryd.prog w = .ok v' w' := by rw [hty] at hrun ⊢; exact hrun
  unfold Oper.wp execOp
  simp only [ho, resolve, invoke, builtin, Sem.run_bind, Sem.run_pure, Result.andThen_ok, List.map_toArray, List.map_cons, List.map_nil, hs, hx, hr]
  exact h
theorem run_append_bytes {w : World} (base : Nat) (v : Value) (n : Nat) (xs bs : List UInt8) (A : Option Addr) (m c : Nat) (hown : w.ownsRow base 5 1 v n (bv xs)) (hr : RB w A bs) (hm : bs.length = m) (hA : A = none → c = 0)
    (hlen : n + m ≤ 140737488355328) (hbase : base ≤ w.heap.size) :
    ∃ v' w', (Builtin.append_ #[28, 28] 28 #[v, .slice A m c]).run Tryd.prog w = .ok v' w' ∧ w'.ownsRow base 5 1 v' (n + m) (bv (xs ++ bs)) ∧ w.grownBy w' v.ownBlock := by
  obtain ⟨i0, hi, hz0, hz1, hz2⟩ := info_parts info_u8
  subst hm
  cases A with
  | none =>
    obtain rfl := hA rfl
    have h0 : bs = [] := by
      cases bs with
      | nil => rfl
      | cons b bs => obtain ⟨a, ha, _⟩ := hr 0 (by simp); cases ha
    subst h0
    exact ⟨v, w, run_append_owned_none (P := Tryd.prog) (w := w) base 28 _ 5 i0 1 Tryd.underlying28 hi v n _ hown, by simpa using hown, ⟨rfl, rfl, rfl, Nat.le_refl _, fun _ _ _ => rfl⟩⟩
  | some ad =>
    obtain ⟨v', w', h1, h2, h3, -⟩ := run_append_own_at (P := Tryd.prog) (w := w) base 28 28 5 i0 (.int .u8 0) 1 1 Tryd.underlying28 hi hz0 hz1 hz2 rfl (by decide) v n (bv xs) hown ad bs.length c (bv bs) (by simp) (fun j u hj => by
      have hj' : j < bs.length := by have := (List.getElem?_eq_some_iff.1 hj).1; simpa using this
      obtain ⟨a', ha', hcell⟩ := hr j hj'
      obtain rfl := Option.some.inj ha'
      rw [bv_get _ _ hj'] at hj
      rw [hcell]; exact hj) (bv_one bs) (by unfold maxLen; omega) (by omega) hbase
    exact ⟨v', w', h1, by rw [bv_append]; exact h2, h3⟩
theorem scells_set : ∀ (ls : List SV) (k : Nat) (s : SV), scells (ls.set k s) = ((((scells ls).set (k * 4) (.int .i64 s.i)).set (k * 4 + 1) (.int .i64 s.l)).set (k * 4 + 2) (.int .i64 s.u)).set (k * 4 + 3) s.D
  | [], k, s => by simp [scells]
  | y :: r, 0, s => by simp [scells_cons]
  | y :: r, k + 1, s => by
    rw [List.set_cons_succ, scells_cons, scells_cons, scells_set r k s]
    simp only [show (k + 1) * 4 = k * 4 + 1 + 1 + 1 + 1 by omega, show k * 4 + 1 + 1 + 1 + 1 + 1 = (k * 4 + 1) + 1 + 1 + 1 + 1 by omega, show k * 4 + 1 + 1 + 1 + 1 + 2 = (k * 4 + 2) + 1 + 1 + 1 + 1 by omega, show k * 4 + 1 + 1 + 1 + 1 + 3 = (k * 4 + 3) + 1 + 1 + 1 + 1 by omega, List.set_cons_succ]
/-- a session is stored into a row -/
theorem row_set {w : World} {base m g c k : Nat} {ls : List SV} (h : w.ownsRow base 44 4 (.slice (some ⟨g, 0, none⟩) m c) m (scells ls)) (hm : ls.length = m) (hk : k < m) (s : SV) :
    ((((w.setCell ⟨g, k * 4, none⟩ (.int .i64 s.i)).setCell ⟨g, k * 4 + 1, none⟩ (.int .i64 s.l)).setCell ⟨g, k * 4 + 2, none⟩ (.int .i64 s.u)).setCell ⟨g, k * 4 + 3, none⟩ s.D).ownsRow base 44 4 (.slice (some ⟨g, 0, none⟩) m c) m (scells (ls.set k s)) := by
  refine ⟨by rw [scells_length, List.length_set, hm], .inr ?_⟩
  rcases h.2 with ⟨hv, _⟩ | ⟨g', cap, cur, hv, hg, hb, h1, h2, h3, h4⟩
  · cases hv
  · cases hv
    have hh := heap_setCell_same _ g (k * 4 + 3) _ _ s.D (heap_setCell_same _ g (k * 4 + 2) _ _ (.int .i64 s.u) (heap_setCell_same _ g (k * 4 + 1) _ _ (.int .i64 s.l) (heap_setCell_same w g (k * 4) _ _ (.int .i64 s.i) hb)))
    refine ⟨g, _, _, rfl, hg, hh, h1, h2, ?_, ?_⟩
    · simp [h3]
    · rw [scells_set, ← h4]
      simp only [Array.toList_setIfInBounds, List.take_set]
theorem put_set {x : SV} {ls : List SV} {j : Nat} (hr : risS ls) (hj : j < ls.length) (hx : ls[j].i = x.i) : putS x ls = ls.set j x := by
  unfold putS
  have hd := eraseIdx_del hr hj
  rw [hx] at hd
  have hrd := risS_del hr x.i
  rw [← hd] at hrd ⊢
  have hp := hr
  unfold risS at hp
  rw [List.pairwise_iff_getElem] at hp
  rw [insS_at (k := j) hrd (by simp; omega) (fun i h hi => ?_) (fun h => ?_)]
  · rw [List.set_eq_take_append_cons_drop, if_pos hj, List.take_left' (by simp; omega), List.drop_left' (by simp; omega)]
    simp
  · rw [List.getElem_append_left (by simp; omega), List.getElem_take]
    rw [← hx]
    exact hp i j (by omega) hj hi
  · rw [List.getElem_append_right (by simp; omega), List.getElem_drop]
    rw [← hx]
    exact hp j _ hj _ (by omega)

set_option maxRecDepth 100000 in
set_option maxHeartbeats 4000000 in
theorem rnote_any (base q : Nat) (v : Value) (clock : Int) (ls : List SV) (x n : Int) (Dr : Value) (r : List UInt8) (w : World) (t : RT w base q v clock ls) (hb : base ≤ w.heap.size) (inv : Inv clock ls) (hr : RD w Dr r) (hc1 : clock ≤ 4611686018427400000) :
    Calls Tryd.prog 34 #[.pointer (some ⟨q, 0, none⟩), .int .i64 x, .int .i64 n, Dr] w fun e w' => ∃ clock' ls', e = .returned (.int .i64 (noteE ls x n r)) ∧ RT w' base q v clock' ls' ∧ NoteP w clock ls x n r clock' ls' ∧ Frm (RTk q v) w w' := by
  have T := Lib.hid t
  have IV := Lib.hid inv
  have HR := Lib.hid hr
  obtain ⟨B, cr, hDr, -, hrc, hrl, hBn⟩ := hr
  subst hDr
  have HA := Lib.hid (rask_any base q v clock ls x n w t inv.ris (by have := inv.len; omega))
  obtain ⟨A, c, hv, -, -⟩ := t.shape
  subst hv
  clear t inv
  obtain ⟨k, hk⟩ : ∃ k, Hid (askK ls x n = k) := ⟨_, Lib.hid rfl⟩
  rw [hk.out] at HA
  by_cases h1 : k = 1
  · subst h1
    have hl := hk.out
    obtain ⟨s, hs, hsl⟩ := ask_one hl
    have hmem := findS_mem hs
    by_cases h2 : 16384 < r.length
    · have HE := Lib.hid (show noteE ls x n r = 2 by simp [noteE, hl, h2])
      have h2b : (16384 : Int) < (r.length : Int) := by omega
      clear h2 hl
      go_enter Tryd.func34, Tryd.ntmps34
      go_wp2_with fail
      refine HA.out.mono ?_
      rintro e w1 ⟨D, rfl, hD, b1⟩
      go_wp2_with fail
      go_ret
      exact ⟨clock, ls, by rw [HE.out]; rfl, T.out.below b1, .inl ⟨by rw [HE.out]; decide, rfl, rfl⟩, Frm.of_below b1⟩
    · have HE := Lib.hid (show noteE ls x n r = 0 by simp [noteE, hl, h2])
      have h2b : ¬ (16384 : Int) < (r.length : Int) := by omega
      clear h2 hl
      go_enter Tryd.func34, Tryd.ntmps34
      go_wp2_with fail
      refine HA.out.mono ?_
      rintro e w1 ⟨D, rfl, hD, b1⟩
      have t1 := T.out.below b1
      have f1 : w1.frozen? ⟨q, 1, none⟩ = false := frozen_of t1.2.1 1
      have c1 := t1.c1
      have wr1 : IntKind.i64.wrap (clock + 1) = clock + 1 := IntWalk.i64_in _ (by have := IV.out.c0; omega)
      have T2 := Lib.hid (t1.reclock (clock + 1))
      have HF := Lib.hid (rfind_any base q _ (clock + 1) ls x _ T2.out IV.out.ris (by have := IV.out.len; omega))
      have HRW := Lib.hid (HR.out.below b1)
      have B1 := Lib.hid b1
      clear t1 b1 hD
      go_wp2_with fail
      refine HF.out.mono ?_
      rintro e w2 ⟨rfl, ⟨rfl, hf⟩ | ⟨j, hj, rfl, hf⟩⟩
      · exact absurd (hs.symm.trans hf) (by simp)
      · have hji := (findS_mem hf).2
        obtain ⟨g, c', cur, hve, hg, hbk, hlc, hcm, h3, h4⟩ := row_at T2.out.2.2.1 rfl (by omega)
        injection hve with hv1 _ hv3
        subst hv1
        subst hv3
        have HRB := Lib.hid (show RB (w1.setCell ⟨q, 1, none⟩ (.int .i64 (clock + 1))) B r from by
          obtain ⟨B', c2, hD2, hrb, -⟩ := HRW.out
          cases hD2
          refine hrb.step fun a ha h0 => heap_setCell_other _ _ _ _ fun e => ?_
          obtain ⟨b, o, hBb, hz, hc⟩ := hrb.addr h0
          rw [ha] at hBb
          cases hBb
          have hc0 := hc 0 h0
          have e : b = q := e
          subst e
          have t1 := T.out.below B1.out
          rw [cell_of t1.2.1] at hc0
          rcases o with _ | _ | o
          · simp at hc0
          · simp at hc0
          · simp at hc0)
        obtain ⟨W, hW⟩ : ∃ W, W = w1.setCell ⟨q, 1, none⟩ (.int .i64 (clock + 1)) := ⟨_, rfl⟩
        rw [← hW] at T2 HRB hbk
        go_wp2_with fail
        rw [← hW]
        have HW := Lib.hid hW
        have HT := Lib.hid (show RT W.drew base q (.slice (some ⟨g, 0, none⟩) ls.length c) (clock + 1) ls from T2.out.step rfl (fun _ _ => rfl) (fun _ _ _ _ => rfl))
        have hS0 := And.intro HT.out.c0 HT.out.c1
        have bA := below_alloc W.drew (.cells #[] 5)
        have hS4 := And.intro (HT.out.below bA).c0 (HT.out.below bA).c1
        obtain ⟨v5, w5, run5, own5, g5⟩ := run_append_bytes (w := W.drew.alloc (.cells #[] 5)) W.heap.size (.slice (some ⟨W.heap.size, 0, none⟩) 0 0) 0 [] r B r.length cr (World.ownsRow_made W.drew #[] 0 (Nat.le_refl _) (by unfold maxLen; omega) rfl) ((HRB.out.drewN 1).alloc _) rfl hBn (by omega) bA.size
        have b5 : Below W.heap.size W.drew w5 := bA.grown g5 bA.size (fun k hk => by
          have hk : W.heap.size = k := Option.some.inj hk
          subst hk
          exact Nat.le_refl _)
        have T5 := Lib.hid (HT.out.below b5)
        have hS5 := And.intro T5.out.c0 T5.out.c1
        obtain ⟨A5, c5, hv5, -, -⟩ := own_shape own5
        subst hv5
        have O5 := Lib.hid (show OD w5 W.heap.size (.slice A5 r.length c5) r from ⟨by simpa using own5, hrl⟩)
        have B5 := Lib.hid b5
        rw [Nat.zero_add] at run5
        have hk0 : w5.heap[g]? = some (.cells cur 44 (0, 0)) := (b5.block g (T2.out.2.2.1.lt g rfl).2).trans hbk
        have hk1 := heap_setCell_same _ g (j * 4) _ _ (.int .i64 x) hk0
        have hk2 := heap_setCell_same _ g (j * 4 + 1) _ _ (.int .i64 n) hk1
        have hk3 := heap_setCell_same _ g (j * 4 + 2) _ _ (.int .i64 (clock + 1)) hk2
        obtain ⟨u0, hu0⟩ : ∃ u, w5.cell? ⟨g, j * 4, none⟩ = some u := by rw [cell_of hk0, Array.getElem?_eq_getElem (by omega)]; exact ⟨_, rfl⟩
        obtain ⟨u1, hu1⟩ : ∃ u, (w5.setCell ⟨g, j * 4, none⟩ (.int .i64 x)).cell? ⟨g, j * 4 + 1, none⟩ = some u := by rw [cell_of hk1, Array.getElem?_eq_getElem (by simp; omega)]; exact ⟨_, rfl⟩
        obtain ⟨u2, hu2⟩ : ∃ u, ((w5.setCell ⟨g, j * 4, none⟩ (.int .i64 x)).setCell ⟨g, j * 4 + 1, none⟩ (.int .i64 n)).cell? ⟨g, j * 4 + 2, none⟩ = some u := by rw [cell_of hk2, Array.getElem?_eq_getElem (by simp; omega)]; exact ⟨_, rfl⟩
        obtain ⟨u3, hu3⟩ : ∃ u, (((w5.setCell ⟨g, j * 4, none⟩ (.int .i64 x)).setCell ⟨g, j * 4 + 1, none⟩ (.int .i64 n)).setCell ⟨g, j * 4 + 2, none⟩ (.int .i64 (clock + 1))).cell? ⟨g, j * 4 + 3, none⟩ = some u := by rw [cell_of hk3, Array.getElem?_eq_getElem (by simp; omega)]; exact ⟨_, rfl⟩
        have HK0 := Lib.hid hk0
        have hz0 := frozen_of hk0 (j * 4)
        have hz1 := frozen_of hk1 (j * 4 + 1)
        have hz2 := frozen_of hk2 (j * 4 + 2)
        have hz3 := frozen_of hk3 (j * 4 + 3)
        clear own5 g5 b5 bA hW hk0 hk1 hk2 hk3 h3 h4 hbk
        refine wp_region_Z (fun w' => w'.cell? ⟨q, 0, none⟩ = some (.slice (some ⟨g, 0, none⟩) ls.length c) ∧ w'.cell? ⟨q, 1, none⟩ = some (.int .i64 (clock + 1))) 16 (by kernel_rfl) hS0 (fun hHeld => ?_)
        refine wpAnyZ_take (i := 0) (v := ?_) rfl (by kernel_rfl) (by kernel_rfl) (by kernel_rfl) (by kernel_rfl) (by decide) (fun _ _ _ h => h) (by rfl) ?_ (by assumption) ?_
        rotate_left
        · (intro w hSw; (try dsimp only at hSw); go_simp) <;> with_reducible rfl
        try simp only [Act.put, List.getElem_toArray, List.getElem_cons_zero, List.getElem_cons_succ, List.setIfInBounds_toArray, List.set_cons_zero, List.set_cons_succ]
        refine wpAnyZ_take (i := 1) (v := ?_) rfl (by kernel_rfl) (by kernel_rfl) (by kernel_rfl) (by kernel_rfl) (by decide) (fun _ _ _ h => h) (by rfl) ?_ (by assumption) ?_
        rotate_left
        · (intro w hSw; (try dsimp only at hSw); go_simp) <;> with_reducible rfl
        try simp only [Act.put, List.getElem_toArray, List.getElem_cons_zero, List.getElem_cons_succ, List.setIfInBounds_toArray, List.set_cons_zero, List.set_cons_succ]
        refine wpAnyZ_take (i := 2) (v := ?_) rfl (by kernel_rfl) (by kernel_rfl) (by kernel_rfl) (by kernel_rfl) (by decide) (fun _ _ _ h => h) (by rfl) ?_ (by assumption) ?_
        rotate_left
        · (intro w hSw; (try dsimp only at hSw); go_simp) <;> with_reducible rfl
        try simp only [Act.put, List.getElem_toArray, List.getElem_cons_zero, List.getElem_cons_succ, List.setIfInBounds_toArray, List.set_cons_zero, List.set_cons_succ]
        refine wpAnyZ_take (i := 3) (v := ?_) rfl (by kernel_rfl) (by kernel_rfl) (by kernel_rfl) (by kernel_rfl) (by decide) (fun _ _ _ h => h) (by rfl) ?_ (by assumption) ?_
        rotate_left
        · (intro w hSw; (try dsimp only at hSw); go_simp) <;> with_reducible rfl
        try simp only [Act.put, List.getElem_toArray, List.getElem_cons_zero, List.getElem_cons_succ, List.setIfInBounds_toArray, List.set_cons_zero, List.set_cons_succ]
        refine wpAnyZ_take (i := 4) (v := ?_) rfl (by kernel_rfl) (by kernel_rfl) (by kernel_rfl) (by kernel_rfl) (by decide) (fun _ _ _ h => h) (by rfl) ?_ (by assumption) ?_
        rotate_left
        · (intro w hSw; (try dsimp only at hSw); go_simp) <;> with_reducible rfl
        try simp only [Act.put, List.getElem_toArray, List.getElem_cons_zero, List.getElem_cons_succ, List.setIfInBounds_toArray, List.set_cons_zero, List.set_cons_succ]
        refine wpAnyZ_take (i := 5) (v := ?_) rfl (by kernel_rfl) (by kernel_rfl) (by kernel_rfl) (by kernel_rfl) (by decide) (fun _ _ _ h => h) (by rfl) ?_ (by assumption) ?_
        rotate_left
        · (intro w hSw; (try dsimp only at hSw); go_simp) <;> with_reducible rfl
        try simp only [Act.put, List.getElem_toArray, List.getElem_cons_zero, List.getElem_cons_succ, List.setIfInBounds_toArray, List.set_cons_zero, List.set_cons_succ]
        refine wpAnyZ_take (i := 6) (v := ?_) rfl (by kernel_rfl) (by kernel_rfl) (by kernel_rfl) (by kernel_rfl) (by decide) (fun _ _ _ h => h) (by rfl) ?_ (by assumption) ?_
        rotate_left
        · (intro w hSw; (try dsimp only at hSw); go_simp) <;> with_reducible rfl
        try simp only [Act.put, List.getElem_toArray, List.getElem_cons_zero, List.getElem_cons_succ, List.setIfInBounds_toArray, List.set_cons_zero, List.set_cons_succ]
        refine wpAnyZ_take (i := 7) (v := ?_) rfl (by kernel_rfl) (by kernel_rfl) (by kernel_rfl) (by kernel_rfl) (by decide) (fun _ _ _ h => h) (by rfl) ?_ (by assumption) ?_
        rotate_left
        · (intro w hSw; (try dsimp only at hSw); go_simp) <;> with_reducible rfl
        try simp only [Act.put, List.getElem_toArray, List.getElem_cons_zero, List.getElem_cons_succ, List.setIfInBounds_toArray, List.set_cons_zero, List.set_cons_succ]
        refine wpAnyZ_take (i := 8) (v := ?_) rfl (by kernel_rfl) (by kernel_rfl) (by kernel_rfl) (by kernel_rfl) (by decide) (fun _ _ _ h => h) (by rfl) ?_ (by assumption) ?_
        rotate_left
        · (intro w hSw; (try dsimp only at hSw); go_simp) <;> with_reducible rfl
        try simp only [Act.put, List.getElem_toArray, List.getElem_cons_zero, List.getElem_cons_succ, List.setIfInBounds_toArray, List.set_cons_zero, List.set_cons_succ]
        refine wpAnyZ_take (i := 9) (v := ?_) rfl (by kernel_rfl) (by kernel_rfl) (by kernel_rfl) (by kernel_rfl) (by decide) (fun _ _ _ h => h) (by rfl) ?_ (by assumption) ?_
        rotate_left
        · (intro w hSw; (try dsimp only at hSw); go_simp) <;> with_reducible rfl
        try simp only [Act.put, List.getElem_toArray, List.getElem_cons_zero, List.getElem_cons_succ, List.setIfInBounds_toArray, List.set_cons_zero, List.set_cons_succ]
        refine wpAnyZ_take (i := 10) (v := ?_) rfl (by kernel_rfl) (by kernel_rfl) (by kernel_rfl) (by kernel_rfl) (by decide) (fun _ _ _ h => h) (by rfl) ?_ (by assumption) ?_
        rotate_left
        · (intro w hSw; (try dsimp only at hSw); go_simp) <;> with_reducible rfl
        try simp only [Act.put, List.getElem_toArray, List.getElem_cons_zero, List.getElem_cons_succ, List.setIfInBounds_toArray, List.set_cons_zero, List.set_cons_succ]
        refine wpAnyZ_take (i := 12) (v := ?_) rfl (by kernel_rfl) (by kernel_rfl) (by kernel_rfl) (by kernel_rfl) (by decide) (fun _ _ _ h => h) (by rfl) ?_ (by assumption) ?_
        rotate_left
        · (intro w hSw; (try dsimp only at hSw); go_simp) <;> with_reducible rfl
        try simp only [Act.put, List.getElem_toArray, List.getElem_cons_zero, List.getElem_cons_succ, List.setIfInBounds_toArray, List.set_cons_zero, List.set_cons_succ]
        refine wpAnyZ_step (i := 11) rfl (by kernel_rfl) (fun K hK => ?_)
        go_simp
        refine hK.out _ _ (fun _ => hS4) ?_
        clear hK K
        try simp only [Act.put, List.getElem_toArray, List.getElem_cons_zero, List.getElem_cons_succ, List.setIfInBounds_toArray, List.set_cons_zero, List.set_cons_succ]
        refine wpAnyZ_step (i := 13) rfl (by kernel_rfl) (fun K hK => ?_)
        refine step_append_runb rfl (.tmp 45) (.tmp 46) rfl rfl _ _ rfl rfl _ _ run5 ?_
        refine hK.out _ _ (fun _ => hS5) ?_
        clear hK K
        try simp only [Act.put, List.getElem_toArray, List.getElem_cons_zero, List.getElem_cons_succ, List.setIfInBounds_toArray, List.set_cons_zero, List.set_cons_succ]
        refine wpAnyZ_take (i := 14) (v := ?_) rfl (by kernel_rfl) (by kernel_rfl) (by kernel_rfl) (by kernel_rfl) (by decide) (fun _ _ _ h => h) (by rfl) ?_ (by assumption) ?_
        rotate_left
        · (intro w hSw; (try dsimp only at hSw); go_simp) <;> with_reducible rfl
        try simp only [Act.put, List.getElem_toArray, List.getElem_cons_zero, List.getElem_cons_succ, List.setIfInBounds_toArray, List.set_cons_zero, List.set_cons_succ]
        refine wpAnyZ_take (i := 15) (v := ?_) rfl (by kernel_rfl) (by kernel_rfl) (by kernel_rfl) (by kernel_rfl) (by decide) (fun _ _ _ h => h) (by rfl) ?_ (by assumption) ?_
        rotate_left
        · (intro w hSw; (try dsimp only at hSw); go_simp) <;> with_reducible rfl
        try simp only [Act.put, List.getElem_toArray, List.getElem_cons_zero, List.getElem_cons_succ, List.setIfInBounds_toArray, List.set_cons_zero, List.set_cons_succ]
        refine wpAnyZ_step (i := 16) rfl (by kernel_rfl) (fun K hK => ?_)
        go_simp
        refine hK.out _ _ (fun h => absurd rfl h) ?_
        clear hK K
        try simp only [Act.put, List.getElem_toArray, List.getElem_cons_zero, List.getElem_cons_succ, List.setIfInBounds_toArray, List.set_cons_zero, List.set_cons_succ]
        refine wpAnyZ_done (by kernel_rfl) ?_
        refine NoPanic.normal ?_
        go_wp2_with fail
        go_ret
        have hgq : g ≠ q := fun e => row_ne T5.out.2.2.1 T5.out.2.1 (by decide) (by rw [← e]; rfl)
        have hoth : ∀ k, k ≠ g → ((((w5.setCell ⟨g, j * 4, none⟩ (.int .i64 x)).setCell ⟨g, j * 4 + 1, none⟩ (.int .i64 n)).setCell ⟨g, j * 4 + 2, none⟩ (.int .i64 (clock + 1))).setCell ⟨g, j * 4 + 3, none⟩ (.slice A5 r.length c5)).heap[k]? = w5.heap[k]? := fun k hk => by
          rw [heap_setCell_other _ _ _ _ hk, heap_setCell_other _ _ _ _ hk, heap_setCell_other _ _ _ _ hk, heap_setCell_other _ _ _ _ hk]
        have hkeep : ∀ {b' : Nat} {D : Value} {d : List UInt8}, OD w5 b' D d → OD ((((w5.setCell ⟨g, j * 4, none⟩ (.int .i64 x)).setCell ⟨g, j * 4 + 1, none⟩ (.int .i64 n)).setCell ⟨g, j * 4 + 2, none⟩ (.int .i64 (clock + 1))).setCell ⟨g, j * 4 + 3, none⟩ (.slice A5 r.length c5)) b' D d := fun o => o.step fun k hk => hoth k fun e => od_ne o HK0.out (by decide) (by rw [hk, e])
        have hWz : W.heap.size = w1.heap.size := by rw [HW.out]; exact World.size_setCell _ _ _
        have hwz := B1.out.size
        refine ⟨clock + 1, ls.set j ⟨x, n, clock + 1, A5, c5, r⟩, by rw [HE.out]; rfl, ⟨T5.out.1, (hoth q (Ne.symm hgq)).trans T5.out.2.1, ?_, fun s' hs' => ?_⟩, .inr ⟨HE.out, rfl, A5, c5, (put_set (x := ⟨x, n, clock + 1, A5, c5, r⟩) IV.out.ris hj hji).symm, fun k hk => ?_⟩, ?_⟩
        · rw [List.length_set]; exact row_set T5.out.2.2.1 rfl hj ⟨x, n, clock + 1, A5, c5, r⟩
        · rcases List.mem_or_eq_of_mem_set hs' with h | rfl
          · exact hkeep (T5.out.2.2.2 s' h)
          · exact hkeep (O5.out.lower (by omega))
        · have := (O5.out.1.lt k hk).1
          omega
        · have f1 : Frm (RTk q (.slice (some ⟨g, 0, none⟩) ls.length c)) w W := by
            rw [HW.out]
            exact (Frm.of_below B1.out).setCell _ _ (Or.inl (show RTk q _ q from Or.inl rfl))
          have f2 : Frm (RTk q (.slice (some ⟨g, 0, none⟩) ls.length c)) W w5 := (Frm.drewN (Frm.refl _ W) 1).trans (Frm.of_below B5.out)
          have hg : ∀ k : Nat, RTk q (.slice (some ⟨g, 0, none⟩) ls.length c) g := fun _ => Or.inr rfl
          exact ((((f1.trans f2).setCell _ _ (Or.inl (hg 0))).setCell _ _ (Or.inl (hg 0))).setCell _ _ (Or.inl (hg 0))).setCell _ _ (Or.inl (hg 0))
  · have HE := Lib.hid (show noteE ls x n r = 1 by simp only [noteE]; rw [if_neg (by rw [hk.out]; exact h1)])
    have h1b : ((k : Int) != 1) = true := by simp; omega
    clear h1
    go_enter Tryd.func34, Tryd.ntmps34
    go_wp2_with fail
    refine HA.out.mono ?_
    rintro e w1 ⟨D, rfl, hD, b1⟩
    go_wp2_with fail
    go_ret
    exact ⟨clock, ls, by rw [HE.out]; rfl, T.out.below b1, .inl ⟨by rw [HE.out]; decide, rfl, rfl⟩, Frm.of_below b1⟩
end Go.Proofs.YtbdokphemdkhmaaDoor
