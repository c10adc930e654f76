/- muntinref16.Table: rows that are appended; drop. -/
import Derived.Test.YtbdokphemdkhmaaDoorSRef
import Derived.Test.YtbdokphemdkhmaaDoorHeldZ
import Derived.Maps.AppendAt
set_option linter.unusedVariables false
set_option linter.unusedSimpArgs false
namespace Go.Proofs.YtbdokphemdkhmaaDoor
open Go.RowKit

theorem scells_take : ∀ (ls : List SV) (n : Nat), scells (ls.take n) = (scells ls).take (n * 4)
  | [], n => by simp [scells]
  | s :: r, 0 => by simp [scells]
  | s :: r, n + 1 => by
    rw [show (n + 1) * 4 = n * 4 + 1 + 1 + 1 + 1 by omega, List.take_succ_cons, scells_cons, scells_cons, scells_take r n]
    simp only [List.take_succ_cons]
theorem scells_drop : ∀ (ls : List SV) (n : Nat), scells (ls.drop n) = (scells ls).drop (n * 4)
  | [], n => by simp [scells]
  | s :: r, 0 => by simp [scells]
  | s :: r, n + 1 => by
    rw [show (n + 1) * 4 = n * 4 + 1 + 1 + 1 + 1 by omega, List.drop_succ_cons, scells_cons, scells_drop r n]
    simp only [List.drop_succ_cons]
/-- 'append' of sessions to sessions of the call's own -/
theorem run_append_sess {w : World} (base : Nat) (v : Value) (n : Nat) (ls : List SV) (hown : w.ownsRow base 44 4 v n (scells ls)) (A : Option Addr) (m c : Nat) (es : List SV) (hm : es.length = m) (hA : A = none → c = 0 ∧ m = 0)
    (hr : ∀ a, A = some a → ∀ j u, (scells es)[j]? = some u → w.cell? (a.add j) = some u) (hn : n + m ≤ 1000000) (hbase : base ≤ w.heap.size) :
    ∃ v' w', (Builtin.append_ #[38, 38] 38 #[v, .slice A m c]).run Tryd.prog w = .ok v' w' ∧ w'.ownsRow base 44 4 v' (n + m) (scells (ls ++ es)) ∧ w.grownBy w' v.ownBlock ∧ (v'.ownBlock = v.ownBlock ∨ v'.ownBlock = some w.heap.size) := by
  obtain ⟨i0, hi, hz0, hz1, hz2⟩ := info_parts info_ses
  cases A with
  | none =>
    obtain ⟨rfl, rfl⟩ := hA rfl
    obtain rfl : es = [] := List.eq_nil_of_length_eq_zero hm
    refine ⟨v, w, run_append_owned_none (P := Tryd.prog) (w := w) base 38 _ 44 i0 4 Tryd.underlying38 hi v n _ hown, by simpa using hown, ⟨rfl, rfl, rfl, Nat.le_refl _, fun _ _ _ => rfl⟩, .inl rfl⟩
  | some a =>
    obtain ⟨v', w', h1, h2, h3, _, h5⟩ := run_append_own_at (P := Tryd.prog) (w := w) base 38 38 44 i0 _ 4 48 Tryd.underlying38 hi hz0 hz1 hz2 rfl (by decide) v n (scells ls) hown a m c (scells es) (by rw [scells_length, hm]) (hr a rfl) (scells_one es) (by unfold maxLen; omega) (by omega) hbase
    exact ⟨v', w', h1, by rw [scells_append]; exact h2, h3, h5⟩
/-- 'append', by what it runs to -/
theorem wp_append_run {o : Oper} {a : Act} {w : World} {K : Act → World → Prop} {Q : Exit → Act → World → Prop} (s x : Operand)
    (ho : o.op = .call { callee := .builtin .append, args := #[s, x], argTypes := #[38, 38] }) (hty : o.type = 38) (v src : Value) (hs : a.eval s = v) (hx : a.eval x = src) (v' : Value) (w' : World)
    (hrun : (Builtin.append_ #[38, 38] 38 #[v, src]).run Tryd.prog w = .ok v' w') (h : K (a.put o.dst v') w') : Oper.wp Tryd.prog o a w K Q := by
  rw [← hty] at hrun
  have hr : (Builtin.append_ #[38, 38] o.type #[v, src]).run Tryd.prog w = .ok v' w' := by rw [hty] at hrun ⊢; exact hrun
  unfold Oper.wp execOp
  simp only [ho, resolve, invoke, builtin, Sem.run_bind, Sem.run_pure, Result.andThen_ok, List.map_toArray, List.map_cons, List.map_nil, hs, hx, hr]
  exact h
theorem step_append_run {ops : Array Oper} {o : Oper} {a : Act} {w : World} {K : Act → World → Prop} {Q : Exit → Act → World → Prop} {E : Prop} (hgd : o.guard = none) (s x : Operand)
    (ho : o.op = .call { callee := .builtin .append, args := #[s, x], argTypes := #[38, 38] }) (hty : o.type = 38) (v src : Value) (hs : a.eval s = v) (hx : a.eval x = src) (v' : Value) (w' : World)
    (hrun : (Builtin.append_ #[38, 38] 38 #[v, src]).run Tryd.prog w = .ok v' w') (h : K (a.put o.dst v') w') : if Region.wanted o (yielded ops a.tmps) = true then Oper.wp Tryd.prog o a w K Q else E := by
  rw [if_pos (by simp [Region.wanted, hgd])]
  exact wp_append_run s x ho hty v src hs hx v' w' hrun h
theorem wpList_append_run {ops : Array Oper} {rest : List Oper} {o : Oper} {a : Act} {w : World} {Q : Exit → Act → World → Prop} (hgd : o.guard = none) (s x : Operand)
    (ho : o.op = .call { callee := .builtin .append, args := #[s, x], argTypes := #[38, 38] }) (hty : o.type = 38) (v src : Value) (hs : a.eval s = v) (hx : a.eval x = src) (v' : Value) (w' : World)
    (hrun : (Builtin.append_ #[38, 38] 38 #[v, src]).run Tryd.prog w = .ok v' w') (h : wpList Tryd.prog ops Q rest (a.put o.dst v') w') : wpList Tryd.prog ops Q (o :: rest) a w := by
  refine wpList_plain hgd fun K hK => ?_
  exact wp_append_run s x ho hty v src hs hx v' w' hrun (hK _ _ h)
/-- the cells of a row, by its block -/
theorem row_cells {w : World} {base m g c : Nat} {ls : List SV} (h : w.ownsRow base 44 4 (.slice (some ⟨g, 0, none⟩) m c) m (scells ls)) (hm : ls.length = m) : ∀ j u, (scells ls)[j]? = some u → w.cell? ⟨g, j, none⟩ = some u := by
  intro j u hj
  have hlt := (List.getElem?_eq_some_iff.1 hj).1
  rw [scells_length] at hlt
  obtain ⟨g', cap, cur, hv, hg, hb, h1, h2, h3, h4⟩ := row_at h hm (by omega)
  cases hv
  rw [← h4, List.getElem?_take_of_lt (by omega), Array.getElem?_toList] at hj
  rw [cell_of hb]; exact hj
theorem RT.reput {w w7 : World} {base q n' : Nat} {v v' : Value} {clock : Int} {ls ls' : List SV} (h : RT w base q v clock ls) (hq : w7.heap[q]? = w.heap[q]?) (hl : ls'.length = n') (hown : w7.ownsRow base 44 4 v' n' (scells ls')) (hod : ∀ s ∈ ls', OD w7 base s.D s.r) : RT (w7.setCell ⟨q, 0, none⟩ v') base q v' clock ls' := by
  subst hl
  have hq7 := hq.trans h.2.1
  refine ⟨h.1, ?_, own_step hown fun k hk => heap_setCell_other _ _ _ _ fun e => ?_, fun s hs => (hod s hs).step fun k hk => heap_setCell_other _ _ _ _ fun e => ?_⟩
  · rw [heap_setCell_same _ _ _ _ _ _ hq7]; rfl
  · exact row_ne hown hq7 (by decide) (by rw [hk, e])
  · exact od_ne (hod s hs) hq7 (by decide) (by rw [hk, e])
theorem eraseIdx_del {ls : List SV} (hr : risS ls) {k : Nat} (hk : k < ls.length) : ls.take k ++ ls.drop (k + 1) = delS ls[k].i ls := by
  have e1 : ls = ls.take k ++ ls[k] :: ls.drop (k + 1) := by rw [List.getElem_cons_drop, List.take_append_drop]
  have hp := hr
  unfold risS at hp
  rw [e1, List.pairwise_append, List.pairwise_cons] at hp
  obtain ⟨h1, ⟨h2, h3⟩, h4⟩ := hp
  have e2 : delS ls[k].i ls = delS ls[k].i (ls.take k ++ ls[k] :: ls.drop (k + 1)) := congrArg _ e1
  rw [e2]
  unfold delS
  rw [List.filter_append, List.filter_cons]
  simp only [beq_self_eq_true, Bool.not_true, Bool.false_eq_true, ↓reduceIte]
  rw [List.filter_eq_self.2 fun s hs => by have := h4 s hs ls[k] List.mem_cons_self; simp; omega, List.filter_eq_self.2 fun s hs => by have := h2 s hs; simp; omega]

set_option maxRecDepth 100000 in
set_option maxHeartbeats 4000000 in
theorem rdrop_any (base q : Nat) (v : Value) (clock : Int) (ls : List SV) (w : World) (t : RT w base q v clock ls) (hb : base ≤ w.heap.size) (hris : risS ls) (h0 : 0 < ls.length) (hn : ls.length ≤ 1000) :
    Calls Tryd.prog 43 #[.pointer (some ⟨q, 0, none⟩)] w fun e w' => e = .returned (.int .i64 (minS ls).i) ∧ ∃ v', RT w' base q v' clock (delS (minS ls).i ls) ∧ Frm (RTk q v) w w' ∧ ∀ k, v'.ownBlock = some k → w.heap.size ≤ k := by
  have hown := t.2.2.1
  obtain ⟨g, c, cur, hv, hg, hbk, hlc, hcm, h3, h4⟩ := row_at hown rfl h0
  subst hv
  have HC := Lib.hid (row_cells hown rfl)
  have T := Lib.hid t
  obtain ⟨n, hln⟩ : ∃ n, ls.length = n := ⟨_, rfl⟩
  rw [hln] at T hlc h0 hn
  have HLN := Lib.hid hln
  have c0 : ∀ m, (w.drewN m).cell? ⟨q, 0, none⟩ = some (.slice (some ⟨g, 0, none⟩) n c) := fun m => T.out.c0
  have c00 := T.out.c0
  have HI := Lib.hid hris
  clear t hown hbk h3 h4 hris hln
  go_enter Tryd.func43, Tryd.ntmps43
  go_wp2_with fail
  go_loopg [3, 4] (n - 1) (fun m ji ki wr => ∃ k j : Nat, m = n - k ∧ 1 ≤ k ∧ k ≤ n ∧ ki = .int .i64 k ∧ ji = .int .i64 j ∧ Hid (LeastP ls k j) ∧ ∃ qd, wr = w.drewN qd)
  case atStart =>
    refine ⟨1, 0, rfl, by omega, by omega, rfl, rfl, Lib.hid ?_, 0, rfl⟩
    have hh0 : 0 < ls.length := by rw [HLN.out]; exact h0
    have := least_step (least_start ls) hh0 hh0
    rwa [if_neg (by omega)] at this
  case round =>
    obtain ⟨k, j, hm, hk1, hk, rfl, rfl, HP, qd, rfl⟩ := hrel
    have hjl : j < ls.length := least_lt HP.out (by rw [HLN.out]; exact h0)
    have hjn : j < n := by have := HLN.out; omega
    have hjl1 : (j : Int) < (n : Int) := by omega
    by_cases hkl : k < n
    · have hkl1 : (k : Int) < (n : Int) := by omega
      have hkl2 : k < ls.length := by rw [HLN.out]; exact hkl
      have hst := Lib.hid (least_step HP.out hkl2 hjl)
      obtain ⟨u, hu⟩ : ∃ u, u = (ls[k]).u := ⟨_, rfl⟩
      obtain ⟨z, hz⟩ : ∃ z, z = (ls[j]).u := ⟨_, rfl⟩
      obtain ⟨-, -, x0, -⟩ := scells_get ls k hkl2
      obtain ⟨-, -, y0, -⟩ := scells_get ls j hjl
      have x1 : ∀ m, (w.drewN m).cell? ⟨g, k * 4 + 2, none⟩ = some (.int .i64 u) := fun m => by rw [hu]; exact HC.out _ _ x0
      have y1 : ∀ m, (w.drewN m).cell? ⟨g, j * 4 + 2, none⟩ = some (.int .i64 z) := fun m => by rw [hz]; exact HC.out _ _ y0
      rw [← hu, ← hz] at hst
      clear hu hz x0 y0 hjl hkl2
      by_cases huz : u < z
      · rw [if_pos huz] at hst
        go_wp2_with fail
        go_quiet (fail)
        clear x1 y1
        go_wp2_with fail
        go_roundg (n - (k + 1))
        case measure => omega
        case rel => exact ⟨k + 1, k, rfl, by omega, by omega, by go_num, rfl, hst, _, rfl⟩
      · rw [if_neg huz] at hst
        go_wp2_with fail
        go_quiet (fail)
        clear x1 y1
        go_wp2_with fail
        go_roundg (n - (k + 1))
        case measure => omega
        case rel => exact ⟨k + 1, j, rfl, by omega, by omega, by go_num, rfl, hst, _, rfl⟩
    · obtain rfl : k = n := by omega
      have hkl1 : ¬ (k : Int) < (k : Int) := by omega
      obtain ⟨x0, -⟩ := scells_get ls j hjl
      have x1 : (w.drewN qd).cell? ⟨g, j * 4, none⟩ = some (.int .i64 (ls[j]).i) := HC.out _ _ x0
      have hend : ls[j] = minS ls := least_end (by rw [HLN.out]; exact HP.out) hjl
      rw [hend] at x1
      have HJ := Lib.hid hend
      clear x0 hend
      go_wp2_with fail
      have hgl := Lib.hid (show g < w.heap.size from (T.out.2.2.1.lt g rfl).2)
      obtain ⟨W, hWW⟩ : ∃ W, W = w.drewN qd := ⟨_, rfl⟩
      rw [← hWW]
      rw [← hWW] at x1
      have HWW := Lib.hid hWW
      have s2 : IntKind.i64.wrap ((j : Int) + 1) = ((j + 1 : Nat) : Int) := (IntWalk.i64_in ((j : Int) + 1) (by omega)).trans (by omega)
      have hj2 : ((j + 1 : Nat) : Int) ≤ (k : Int) := by omega
      clear hWW x1 c0 c00
      have hle1 : (j : Int) ≤ (j : Int) + 1 := by omega
      have hle2 : (0 : Int) ≤ (j : Int) + 1 := by omega
      have hle3 : (0 : Int) ≤ (j : Int) + 1 ∧ (j : Int) + 1 ≤ (k : Int) := by omega
      have hjc : j ≤ c := by omega
      have HJL := Lib.hid hjl
      have hlk := HLN.out
      have HLK := Lib.hid hlk
      clear hlk
      by_cases hcj : c = j + 1
      · obtain rfl : k = j + 1 := by omega
        subst hcj
        obtain ⟨v6, w6, run6, own6, g6, at6⟩ := run_append_sess (w := W.drew) w.heap.size (.slice none 0 0) 0 [] (World.ownsRow_nil _ _ _ _) (some ⟨g, 0, none⟩) j (j + 1) (ls.take j) (by have := HLK.out; simp; omega) (fun h => by cases h) (fun a ha jj u hu => by
          cases ha
          rw [Addr.add_lit, Nat.zero_add]
          rw [scells_take] at hu
          have hlt := (List.getElem?_eq_some_iff.1 hu).1
          have := HLK.out
          rw [List.length_take] at hlt
          rw [List.getElem?_take_of_lt (by omega)] at hu
          have hc := HC.out jj u hu
          rw [HWW.out]; exact hc) (by omega) (by rw [HWW.out]; exact Nat.le_refl _)
        have hz6 := g6.size
        have hWz : W.drew.heap.size = w.heap.size := by rw [HWW.out]; rfl
        have hb6 : w.heap.size ≤ w6.heap.size := by omega
        have hq6 := g6.block q (by rw [HWW.out]; exact T.out.lt) (by simp [Value.ownBlock])
        have hS5 : W.drew.cell? ⟨q, 0, none⟩ = some (.slice (some ⟨g, 0, none⟩) (j + 1) (j + 1)) := by rw [HWW.out]; exact T.out.c0
        have hS6 : w6.cell? ⟨q, 0, none⟩ = some (.slice (some ⟨g, 0, none⟩) (j + 1) (j + 1)) := (World.cell?_of_block (w := W.drew) hq6).trans hS5
        obtain ⟨v7, w7, run7, own7, g7, at7⟩ := run_append_sess (w := w6) w.heap.size v6 (0 + j) ([] ++ ls.take j) own6 (some ⟨g, 0, none⟩) 0 (0) (ls.drop (j + 1)) (by have := HLK.out; simp; omega) (fun h => by cases h) (fun a ha jj u hu => by
          cases ha
          have : ls.drop (j + 1) = [] := List.drop_eq_nil_of_le (by have := HLK.out; omega)
          rw [this] at hu
          simp [scells] at hu) (by omega) hb6
        have hv6 : ∀ k, v6.ownBlock = some k → w.heap.size ≤ k := fun k hk => (own6.lt k hk).1
        have hv7 : ∀ k, v7.ownBlock = some k → w.heap.size ≤ k := fun k hk => (own7.lt k hk).1
        have hqlt := T.out.lt
        have hk67 : ∀ k, k < w.heap.size → w7.heap[k]? = w.heap[k]? := fun k hk => by
          rw [g7.block k (by omega) (fun e => by have := hv6 k e.symm; omega), g6.block k (by omega) (by simp [Value.ownBlock]), HWW.out]
          rfl
        have hS7 : w7.cell? ⟨q, 0, none⟩ = some (.slice (some ⟨g, 0, none⟩) (j + 1) (j + 1)) := (World.cell?_of_block (w := w) (hk67 q hqlt)).trans T.out.c0
        have f7 : w7.frozen? ⟨q, 0, none⟩ = false := frozen_of ((hk67 q hqlt).trans T.out.2.1) 0
        have HFIN := Lib.hid (show RT (w7.setCell ⟨q, 0, none⟩ v7) base q v7 clock (delS (minS ls).i ls) ∧ Frm (RTk q (.slice (some ⟨g, 0, none⟩) (j + 1) (j + 1))) w (w7.setCell ⟨q, 0, none⟩ v7) from by
          have hls : [] ++ ls.take j ++ ls.drop (j + 1) = delS (minS ls).i ls := by rw [List.nil_append, eraseIdx_del HI.out hjl, HJ.out]
          have hown : w7.ownsRow base 44 4 v7 (0 + j + 0) (scells (delS (minS ls).i ls)) := by rw [← hls]; exact own_lower own7 hb
          refine ⟨T.out.reput (hk67 q hqlt) ?_ hown (fun s hs => (T.out.2.2.2 s (mem_delS.1 hs).1).step fun k hk => hk67 k ((T.out.2.2.2 s (mem_delS.1 hs).1).1.lt k hk).2), ?_⟩
          · have := HLK.out; rw [← hls]; simp; omega
          · refine Frm.setCell ⟨?_, ?_, ?_, by have := g7.size; omega, fun k hk _ => hk67 k hk⟩ _ _ (.inl (.inl rfl))
            · rw [g7.os, g6.os, HWW.out]; rfl
            · rw [g7.tape, g6.tape, HWW.out]; rfl
            · rw [g7.output, g6.output, HWW.out]; rfl)
        have HV7 := Lib.hid hv7
        obtain ⟨A7, c7, hv7e, -⟩ := own_shape own7
        subst hv7e
        clear own6 own7 g6 g7 at6 at7 hz6 hq6 hWz hb6 hv6 hv7 hk67
        refine wp_region_Z (fun w' => w'.cell? ⟨q, 0, none⟩ = some (.slice (some ⟨g, 0, none⟩) (j + 1) (j + 1))) 16 (by kernel_rfl) hS5 (fun hHeld => ?_)
        refine wpAnyZ_take (i := 0) (v := ?_) rfl (by kernel_rfl) (by kernel_rfl) (by kernel_rfl) (by kernel_rfl) (by decide) (fun _ _ _ h => h) (by rfl) ?_ (by assumption) ?_
        rotate_left
        · (intro w hSw; (try dsimp only at hSw); go_simp) <;> with_reducible rfl
        try simp only [Act.put, List.getElem_toArray, List.getElem_cons_zero, List.getElem_cons_succ, List.setIfInBounds_toArray, List.set_cons_zero, List.set_cons_succ]
        refine wpAnyZ_take (i := 1) (v := ?_) rfl (by kernel_rfl) (by kernel_rfl) (by kernel_rfl) (by kernel_rfl) (by decide) (fun _ _ _ h => h) (by rfl) ?_ (by assumption) ?_
        rotate_left
        · (intro w hSw; (try dsimp only at hSw); go_simp) <;> with_reducible rfl
        try simp only [Act.put, List.getElem_toArray, List.getElem_cons_zero, List.getElem_cons_succ, List.setIfInBounds_toArray, List.set_cons_zero, List.set_cons_succ]
        refine wpAnyZ_take (i := 2) (v := ?_) rfl (by kernel_rfl) (by kernel_rfl) (by kernel_rfl) (by kernel_rfl) (by decide) (fun _ _ _ h => h) (by rfl) ?_ (by assumption) ?_
        rotate_left
        · (intro w hSw; (try dsimp only at hSw); go_simp) <;> with_reducible rfl
        try simp only [Act.put, List.getElem_toArray, List.getElem_cons_zero, List.getElem_cons_succ, List.setIfInBounds_toArray, List.set_cons_zero, List.set_cons_succ]
        refine wpAnyZ_take (i := 3) (v := ?_) rfl (by kernel_rfl) (by kernel_rfl) (by kernel_rfl) (by kernel_rfl) (by decide) (fun _ _ _ h => h) (by rfl) ?_ (by assumption) ?_
        rotate_left
        · (intro w hSw; (try dsimp only at hSw); go_simp) <;> with_reducible rfl
        try simp only [Act.put, List.getElem_toArray, List.getElem_cons_zero, List.getElem_cons_succ, List.setIfInBounds_toArray, List.set_cons_zero, List.set_cons_succ]
        refine wpAnyZ_take (i := 4) (v := ?_) rfl (by kernel_rfl) (by kernel_rfl) (by kernel_rfl) (by kernel_rfl) (by decide) (fun _ _ _ h => h) (by rfl) ?_ (by assumption) ?_
        rotate_left
        · (intro w hSw; (try dsimp only at hSw); go_simp) <;> with_reducible rfl
        try simp only [Act.put, List.getElem_toArray, List.getElem_cons_zero, List.getElem_cons_succ, List.setIfInBounds_toArray, List.set_cons_zero, List.set_cons_succ]
        refine wpAnyZ_take (i := 5) (v := ?_) rfl (by kernel_rfl) (by kernel_rfl) (by kernel_rfl) (by kernel_rfl) (by decide) (fun _ _ _ h => h) (by rfl) ?_ (by assumption) ?_
        rotate_left
        · (intro w hSw; (try dsimp only at hSw); go_simp) <;> with_reducible rfl
        try simp only [Act.put, List.getElem_toArray, List.getElem_cons_zero, List.getElem_cons_succ, List.setIfInBounds_toArray, List.set_cons_zero, List.set_cons_succ]
        refine wpAnyZ_take (i := 6) (v := ?_) rfl (by kernel_rfl) (by kernel_rfl) (by kernel_rfl) (by kernel_rfl) (by decide) (fun _ _ _ h => h) (by rfl) ?_ (by assumption) ?_
        rotate_left
        · (intro w hSw; (try dsimp only at hSw); go_simp) <;> with_reducible rfl
        try simp only [Act.put, List.getElem_toArray, List.getElem_cons_zero, List.getElem_cons_succ, List.setIfInBounds_toArray, List.set_cons_zero, List.set_cons_succ]
        refine wpAnyZ_take (i := 8) (v := ?_) rfl (by kernel_rfl) (by kernel_rfl) (by kernel_rfl) (by kernel_rfl) (by decide) (fun _ _ _ h => h) (by rfl) ?_ (by assumption) ?_
        rotate_left
        · (intro w hSw; (try dsimp only at hSw); go_simp) <;> with_reducible rfl
        try simp only [Act.put, List.getElem_toArray, List.getElem_cons_zero, List.getElem_cons_succ, List.setIfInBounds_toArray, List.set_cons_zero, List.set_cons_succ]
        refine wpAnyZ_take (i := 9) (v := ?_) rfl (by kernel_rfl) (by kernel_rfl) (by kernel_rfl) (by kernel_rfl) (by decide) (fun _ _ _ h => h) (by rfl) ?_ (by assumption) ?_
        rotate_left
        · (intro w hSw; (try dsimp only at hSw); go_simp) <;> with_reducible rfl
        try simp only [Act.put, List.getElem_toArray, List.getElem_cons_zero, List.getElem_cons_succ, List.setIfInBounds_toArray, List.set_cons_zero, List.set_cons_succ]
        refine wpAnyZ_take (i := 10) (v := ?_) rfl (by kernel_rfl) (by kernel_rfl) (by kernel_rfl) (by kernel_rfl) (by decide) (fun _ _ _ h => h) (by rfl) ?_ (by assumption) ?_
        rotate_left
        · (intro w hSw; (try dsimp only at hSw); go_simp) <;> with_reducible rfl
        try simp only [Act.put, List.getElem_toArray, List.getElem_cons_zero, List.getElem_cons_succ, List.setIfInBounds_toArray, List.set_cons_zero, List.set_cons_succ]
        refine wpAnyZ_take (i := 11) (v := ?_) rfl (by kernel_rfl) (by kernel_rfl) (by kernel_rfl) (by kernel_rfl) (by decide) (fun _ _ _ h => h) (by rfl) ?_ (by assumption) ?_
        rotate_left
        · (intro w hSw; (try dsimp only at hSw); go_simp) <;> with_reducible rfl
        try simp only [Act.put, List.getElem_toArray, List.getElem_cons_zero, List.getElem_cons_succ, List.setIfInBounds_toArray, List.set_cons_zero, List.set_cons_succ]
        refine wpAnyZ_take (i := 12) (v := ?_) rfl (by kernel_rfl) (by kernel_rfl) (by kernel_rfl) (by kernel_rfl) (by decide) (fun _ _ _ h => h) (by rfl) ?_ (by assumption) ?_
        rotate_left
        · (intro w hSw; (try dsimp only at hSw); go_simp) <;> with_reducible rfl
        try simp only [Act.put, List.getElem_toArray, List.getElem_cons_zero, List.getElem_cons_succ, List.setIfInBounds_toArray, List.set_cons_zero, List.set_cons_succ]
        refine wpAnyZ_take (i := 13) (v := ?_) rfl (by kernel_rfl) (by kernel_rfl) (by kernel_rfl) (by kernel_rfl) (by decide) (fun _ _ _ h => h) (by rfl) ?_ (by assumption) ?_
        rotate_left
        · (intro w hSw; (try dsimp only at hSw); go_simp) <;> with_reducible rfl
        try simp only [Act.put, List.getElem_toArray, List.getElem_cons_zero, List.getElem_cons_succ, List.setIfInBounds_toArray, List.set_cons_zero, List.set_cons_succ]
        refine wpAnyZ_take (i := 14) (v := ?_) rfl (by kernel_rfl) (by kernel_rfl) (by kernel_rfl) (by kernel_rfl) (by decide) (fun _ _ _ h => h) (by rfl) ?_ (by assumption) ?_
        rotate_left
        · (intro w hSw; (try dsimp only at hSw); go_simp) <;> with_reducible rfl
        try simp only [Act.put, List.getElem_toArray, List.getElem_cons_zero, List.getElem_cons_succ, List.setIfInBounds_toArray, List.set_cons_zero, List.set_cons_succ]
        refine wpAnyZ_step (i := 7) rfl (by kernel_rfl) (fun K hK => ?_)
        refine step_append_run rfl (.tmp 42) (.tmp 48) rfl rfl _ _ rfl rfl _ _ run6 ?_
        refine hK.out _ _ (fun _ => hS6) ?_
        clear hK K
        try simp only [Act.put, List.getElem_toArray, List.getElem_cons_zero, List.getElem_cons_succ, List.setIfInBounds_toArray, List.set_cons_zero, List.set_cons_succ]
        refine wpAnyZ_step (i := 15) rfl (by kernel_rfl) (fun K hK => ?_)
        refine step_append_run rfl (.tmp 49) (.tmp 56) rfl rfl _ _ rfl rfl _ _ run7 ?_
        refine hK.out _ _ (fun _ => hS7) ?_
        clear hK K
        try simp only [Act.put, List.getElem_toArray, List.getElem_cons_zero, List.getElem_cons_succ, List.setIfInBounds_toArray, List.set_cons_zero, List.set_cons_succ]
        refine wpAnyZ_step (i := 16) rfl (by kernel_rfl) (fun K hK => ?_)
        go_simp
        refine hK.out _ _ (fun h => absurd rfl h) ?_
        clear hK K
        try simp only [Act.put, List.getElem_toArray, List.getElem_cons_zero, List.getElem_cons_succ, List.setIfInBounds_toArray, List.set_cons_zero, List.set_cons_succ]
        refine wpAnyZ_done (by kernel_rfl) ?_
        refine NoPanic.normal ?_
        go_wp2_with fail
        simp only [Nat.zero_add, Nat.add_zero] at HFIN HV7
        go_ret
        exact ⟨rfl, _, HFIN.out.1, HFIN.out.2, HV7.out⟩
      · obtain ⟨v6, w6, run6, own6, g6, at6⟩ := run_append_sess (w := W.drew) w.heap.size (.slice none 0 0) 0 [] (World.ownsRow_nil _ _ _ _) (some ⟨g, 0, none⟩) j c (ls.take j) (by have := HLK.out; simp; omega) (fun h => by cases h) (fun a ha jj u hu => by
          cases ha
          rw [Addr.add_lit, Nat.zero_add]
          rw [scells_take] at hu
          have hlt := (List.getElem?_eq_some_iff.1 hu).1
          have := HLK.out
          rw [List.length_take] at hlt
          rw [List.getElem?_take_of_lt (by omega)] at hu
          have hc := HC.out jj u hu
          rw [HWW.out]; exact hc) (by omega) (by rw [HWW.out]; exact Nat.le_refl _)
        have hz6 := g6.size
        have hWz : W.drew.heap.size = w.heap.size := by rw [HWW.out]; rfl
        have hb6 : w.heap.size ≤ w6.heap.size := by omega
        have hq6 := g6.block q (by rw [HWW.out]; exact T.out.lt) (by simp [Value.ownBlock])
        have hS5 : W.drew.cell? ⟨q, 0, none⟩ = some (.slice (some ⟨g, 0, none⟩) k c) := by rw [HWW.out]; exact T.out.c0
        have hS6 : w6.cell? ⟨q, 0, none⟩ = some (.slice (some ⟨g, 0, none⟩) k c) := (World.cell?_of_block (w := W.drew) hq6).trans hS5
        obtain ⟨v7, w7, run7, own7, g7, at7⟩ := run_append_sess (w := w6) w.heap.size v6 (0 + j) ([] ++ ls.take j) own6 (some ⟨g, (j + 1) * 4, none⟩) (k - (j + 1)) (c - (j + 1)) (ls.drop (j + 1)) (by have := HLK.out; simp; omega) (fun h => by cases h) (fun a ha jj u hu => by
          cases ha
          rw [Addr.add_lit]
          rw [scells_drop, List.getElem?_drop] at hu
          have hc := HC.out _ u hu
          have hg0 := g6.block g (by rw [HWW.out]; exact hgl.out) (by simp [Value.ownBlock])
          refine (World.cell?_of_block (w := W.drew) hg0).trans ?_
          rw [HWW.out]; exact hc) (by omega) hb6
        have hv6 : ∀ k, v6.ownBlock = some k → w.heap.size ≤ k := fun k hk => (own6.lt k hk).1
        have hv7 : ∀ k, v7.ownBlock = some k → w.heap.size ≤ k := fun k hk => (own7.lt k hk).1
        have hqlt := T.out.lt
        have hk67 : ∀ k, k < w.heap.size → w7.heap[k]? = w.heap[k]? := fun k hk => by
          rw [g7.block k (by omega) (fun e => by have := hv6 k e.symm; omega), g6.block k (by omega) (by simp [Value.ownBlock]), HWW.out]
          rfl
        have hS7 : w7.cell? ⟨q, 0, none⟩ = some (.slice (some ⟨g, 0, none⟩) k c) := (World.cell?_of_block (w := w) (hk67 q hqlt)).trans T.out.c0
        have f7 : w7.frozen? ⟨q, 0, none⟩ = false := frozen_of ((hk67 q hqlt).trans T.out.2.1) 0
        have HFIN := Lib.hid (show RT (w7.setCell ⟨q, 0, none⟩ v7) base q v7 clock (delS (minS ls).i ls) ∧ Frm (RTk q (.slice (some ⟨g, 0, none⟩) k c)) w (w7.setCell ⟨q, 0, none⟩ v7) from by
          have hls : [] ++ ls.take j ++ ls.drop (j + 1) = delS (minS ls).i ls := by rw [List.nil_append, eraseIdx_del HI.out hjl, HJ.out]
          have hown : w7.ownsRow base 44 4 v7 (0 + j + (k - (j + 1))) (scells (delS (minS ls).i ls)) := by rw [← hls]; exact own_lower own7 hb
          refine ⟨T.out.reput (hk67 q hqlt) ?_ hown (fun s hs => (T.out.2.2.2 s (mem_delS.1 hs).1).step fun k hk => hk67 k ((T.out.2.2.2 s (mem_delS.1 hs).1).1.lt k hk).2), ?_⟩
          · have := HLK.out; rw [← hls]; simp; omega
          · refine Frm.setCell ⟨?_, ?_, ?_, by have := g7.size; omega, fun k hk _ => hk67 k hk⟩ _ _ (.inl (.inl rfl))
            · rw [g7.os, g6.os, HWW.out]; rfl
            · rw [g7.tape, g6.tape, HWW.out]; rfl
            · rw [g7.output, g6.output, HWW.out]; rfl)
        have HV7 := Lib.hid hv7
        obtain ⟨A7, c7, hv7e, -⟩ := own_shape own7
        subst hv7e
        clear own6 own7 g6 g7 at6 at7 hz6 hq6 hWz hb6 hv6 hv7 hk67
        refine wp_region_Z (fun w' => w'.cell? ⟨q, 0, none⟩ = some (.slice (some ⟨g, 0, none⟩) k c)) 16 (by kernel_rfl) hS5 (fun hHeld => ?_)
        refine wpAnyZ_take (i := 0) (v := ?_) rfl (by kernel_rfl) (by kernel_rfl) (by kernel_rfl) (by kernel_rfl) (by decide) (fun _ _ _ h => h) (by rfl) ?_ (by assumption) ?_
        rotate_left
        · (intro w hSw; (try dsimp only at hSw); go_simp) <;> with_reducible rfl
        try simp only [Act.put, List.getElem_toArray, List.getElem_cons_zero, List.getElem_cons_succ, List.setIfInBounds_toArray, List.set_cons_zero, List.set_cons_succ]
        refine wpAnyZ_take (i := 1) (v := ?_) rfl (by kernel_rfl) (by kernel_rfl) (by kernel_rfl) (by kernel_rfl) (by decide) (fun _ _ _ h => h) (by rfl) ?_ (by assumption) ?_
        rotate_left
        · (intro w hSw; (try dsimp only at hSw); go_simp) <;> with_reducible rfl
        try simp only [Act.put, List.getElem_toArray, List.getElem_cons_zero, List.getElem_cons_succ, List.setIfInBounds_toArray, List.set_cons_zero, List.set_cons_succ]
        refine wpAnyZ_take (i := 2) (v := ?_) rfl (by kernel_rfl) (by kernel_rfl) (by kernel_rfl) (by kernel_rfl) (by decide) (fun _ _ _ h => h) (by rfl) ?_ (by assumption) ?_
        rotate_left
        · (intro w hSw; (try dsimp only at hSw); go_simp) <;> with_reducible rfl
        try simp only [Act.put, List.getElem_toArray, List.getElem_cons_zero, List.getElem_cons_succ, List.setIfInBounds_toArray, List.set_cons_zero, List.set_cons_succ]
        refine wpAnyZ_take (i := 3) (v := ?_) rfl (by kernel_rfl) (by kernel_rfl) (by kernel_rfl) (by kernel_rfl) (by decide) (fun _ _ _ h => h) (by rfl) ?_ (by assumption) ?_
        rotate_left
        · (intro w hSw; (try dsimp only at hSw); go_simp) <;> with_reducible rfl
        try simp only [Act.put, List.getElem_toArray, List.getElem_cons_zero, List.getElem_cons_succ, List.setIfInBounds_toArray, List.set_cons_zero, List.set_cons_succ]
        refine wpAnyZ_take (i := 4) (v := ?_) rfl (by kernel_rfl) (by kernel_rfl) (by kernel_rfl) (by kernel_rfl) (by decide) (fun _ _ _ h => h) (by rfl) ?_ (by assumption) ?_
        rotate_left
        · (intro w hSw; (try dsimp only at hSw); go_simp) <;> with_reducible rfl
        try simp only [Act.put, List.getElem_toArray, List.getElem_cons_zero, List.getElem_cons_succ, List.setIfInBounds_toArray, List.set_cons_zero, List.set_cons_succ]
        refine wpAnyZ_take (i := 5) (v := ?_) rfl (by kernel_rfl) (by kernel_rfl) (by kernel_rfl) (by kernel_rfl) (by decide) (fun _ _ _ h => h) (by rfl) ?_ (by assumption) ?_
        rotate_left
        · (intro w hSw; (try dsimp only at hSw); go_simp) <;> with_reducible rfl
        try simp only [Act.put, List.getElem_toArray, List.getElem_cons_zero, List.getElem_cons_succ, List.setIfInBounds_toArray, List.set_cons_zero, List.set_cons_succ]
        refine wpAnyZ_take (i := 6) (v := ?_) rfl (by kernel_rfl) (by kernel_rfl) (by kernel_rfl) (by kernel_rfl) (by decide) (fun _ _ _ h => h) (by rfl) ?_ (by assumption) ?_
        rotate_left
        · (intro w hSw; (try dsimp only at hSw); go_simp) <;> with_reducible rfl
        try simp only [Act.put, List.getElem_toArray, List.getElem_cons_zero, List.getElem_cons_succ, List.setIfInBounds_toArray, List.set_cons_zero, List.set_cons_succ]
        refine wpAnyZ_take (i := 8) (v := ?_) rfl (by kernel_rfl) (by kernel_rfl) (by kernel_rfl) (by kernel_rfl) (by decide) (fun _ _ _ h => h) (by rfl) ?_ (by assumption) ?_
        rotate_left
        · (intro w hSw; (try dsimp only at hSw); go_simp) <;> with_reducible rfl
        try simp only [Act.put, List.getElem_toArray, List.getElem_cons_zero, List.getElem_cons_succ, List.setIfInBounds_toArray, List.set_cons_zero, List.set_cons_succ]
        refine wpAnyZ_take (i := 9) (v := ?_) rfl (by kernel_rfl) (by kernel_rfl) (by kernel_rfl) (by kernel_rfl) (by decide) (fun _ _ _ h => h) (by rfl) ?_ (by assumption) ?_
        rotate_left
        · (intro w hSw; (try dsimp only at hSw); go_simp) <;> with_reducible rfl
        try simp only [Act.put, List.getElem_toArray, List.getElem_cons_zero, List.getElem_cons_succ, List.setIfInBounds_toArray, List.set_cons_zero, List.set_cons_succ]
        refine wpAnyZ_take (i := 10) (v := ?_) rfl (by kernel_rfl) (by kernel_rfl) (by kernel_rfl) (by kernel_rfl) (by decide) (fun _ _ _ h => h) (by rfl) ?_ (by assumption) ?_
        rotate_left
        · (intro w hSw; (try dsimp only at hSw); go_simp) <;> with_reducible rfl
        try simp only [Act.put, List.getElem_toArray, List.getElem_cons_zero, List.getElem_cons_succ, List.setIfInBounds_toArray, List.set_cons_zero, List.set_cons_succ]
        refine wpAnyZ_take (i := 11) (v := ?_) rfl (by kernel_rfl) (by kernel_rfl) (by kernel_rfl) (by kernel_rfl) (by decide) (fun _ _ _ h => h) (by rfl) ?_ (by assumption) ?_
        rotate_left
        · (intro w hSw; (try dsimp only at hSw); go_simp) <;> with_reducible rfl
        try simp only [Act.put, List.getElem_toArray, List.getElem_cons_zero, List.getElem_cons_succ, List.setIfInBounds_toArray, List.set_cons_zero, List.set_cons_succ]
        refine wpAnyZ_take (i := 12) (v := ?_) rfl (by kernel_rfl) (by kernel_rfl) (by kernel_rfl) (by kernel_rfl) (by decide) (fun _ _ _ h => h) (by rfl) ?_ (by assumption) ?_
        rotate_left
        · (intro w hSw; (try dsimp only at hSw); go_simp) <;> with_reducible rfl
        try simp only [Act.put, List.getElem_toArray, List.getElem_cons_zero, List.getElem_cons_succ, List.setIfInBounds_toArray, List.set_cons_zero, List.set_cons_succ]
        refine wpAnyZ_take (i := 13) (v := ?_) rfl (by kernel_rfl) (by kernel_rfl) (by kernel_rfl) (by kernel_rfl) (by decide) (fun _ _ _ h => h) (by rfl) ?_ (by assumption) ?_
        rotate_left
        · (intro w hSw; (try dsimp only at hSw); go_simp) <;> with_reducible rfl
        try simp only [Act.put, List.getElem_toArray, List.getElem_cons_zero, List.getElem_cons_succ, List.setIfInBounds_toArray, List.set_cons_zero, List.set_cons_succ]
        refine wpAnyZ_take (i := 14) (v := ?_) rfl (by kernel_rfl) (by kernel_rfl) (by kernel_rfl) (by kernel_rfl) (by decide) (fun _ _ _ h => h) (by rfl) ?_ (by assumption) ?_
        rotate_left
        · (intro w hSw; (try dsimp only at hSw); go_simp) <;> with_reducible rfl
        try simp only [Act.put, List.getElem_toArray, List.getElem_cons_zero, List.getElem_cons_succ, List.setIfInBounds_toArray, List.set_cons_zero, List.set_cons_succ]
        refine wpAnyZ_step (i := 7) rfl (by kernel_rfl) (fun K hK => ?_)
        refine step_append_run rfl (.tmp 42) (.tmp 48) rfl rfl _ _ rfl rfl _ _ run6 ?_
        refine hK.out _ _ (fun _ => hS6) ?_
        clear hK K
        try simp only [Act.put, List.getElem_toArray, List.getElem_cons_zero, List.getElem_cons_succ, List.setIfInBounds_toArray, List.set_cons_zero, List.set_cons_succ]
        refine wpAnyZ_step (i := 15) rfl (by kernel_rfl) (fun K hK => ?_)
        refine step_append_run rfl (.tmp 49) (.tmp 56) rfl rfl _ _ rfl rfl _ _ run7 ?_
        refine hK.out _ _ (fun _ => hS7) ?_
        clear hK K
        try simp only [Act.put, List.getElem_toArray, List.getElem_cons_zero, List.getElem_cons_succ, List.setIfInBounds_toArray, List.set_cons_zero, List.set_cons_succ]
        refine wpAnyZ_step (i := 16) rfl (by kernel_rfl) (fun K hK => ?_)
        go_simp
        refine hK.out _ _ (fun h => absurd rfl h) ?_
        clear hK K
        try simp only [Act.put, List.getElem_toArray, List.getElem_cons_zero, List.getElem_cons_succ, List.setIfInBounds_toArray, List.set_cons_zero, List.set_cons_succ]
        refine wpAnyZ_done (by kernel_rfl) ?_
        refine NoPanic.normal ?_
        go_wp2_with fail
        simp only [Nat.zero_add, Nat.add_zero] at HFIN HV7
        go_ret
        exact ⟨rfl, _, HFIN.out.1, HFIN.out.2, HV7.out⟩
end Go.Proofs.YtbdokphemdkhmaaDoor
