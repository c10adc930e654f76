/- (*session.Table).Open: the contract. -/
import Derived.Test.YtbdokphemdkhmaaDoorSMin
set_option linter.unusedVariables false
set_option linter.unusedSimpArgs false
namespace Go.Proofs.YtbdokphemdkhmaaDoor
open Go.RowKit

theorem wpList_delete_I {ops : Array Oper} {rest : List Oper} {o : Oper} {a : Act} {Q : Exit → Act → World → Prop} (w : World) (hg : o.guard = none) (m x : Operand) (t e : TypeId) (hop : o.op = Op.call { callee := Callee.builtin Builtin.delete, args := #[m, x], argTypes := #[t, 3] })
    (ht : Tryd.prog.underlying t = some (.map 3 e)) (b : Nat) (es : IVs) (hm : a.eval m = .map (some b)) (h : IM w b es) (k : Int) (hx : a.eval x = .int .i64 k) (wk : (Lit.int .i64 k).wf = true)
    (hK : ∀ w', IM w' b (delI k es) → w.grownBy w' (some b) → w'.heap.size = w.heap.size → wpList Tryd.prog ops Q rest (a.put o.dst (.tuple #[])) w') : wpList Tryd.prog ops Q (o :: rest) a w := by
  refine wpList_delete_own w hg m x t 3 hop e lawI ht anyE b es.length (kD es) hm h.2 (.int .i64 k) (.int .i64 k) hx (keyI wk) fun w' h1 h2 => ?_
  refine hK w' ⟨risI_del h.1 _, ?_⟩ h2.grown ?_
  · rw [kD_del] at h1
    have := ownsMap_exact h1
    rwa [kD_size] at this
  · obtain ⟨_, _, _, _, _, rfl⟩ := h2
    simp [ChangeMaps.setBlock]

@[go_sem] theorem fieldS (a b c : Int) (A : Option Addr) (n k : Nat) (w : World) : (Instr.field 44 (.agg #[.int .i64 a, .int .i64 b, .int .i64 c, .slice A n k]) 0).run Tryd.prog w = .ok (.int .i64 a) w := by kernel_rfl
def openE (ss : List SV) (x : Int) : Nat := if x < 1 ∨ (findS x ss).isSome = true then 1 else 0
def goneI (ss : List SV) : Int := if 8 ≤ ss.length then (minS ss).i else 0
def dropS (ss : List SV) : List SV := if 8 ≤ ss.length then delS (minS ss).i ss else ss
theorem pickU_mem (m : SV) : ∀ l : List SV, pickU m l = m ∨ pickU m l ∈ l
  | [] => .inl rfl
  | x :: r => by
    simp only [pickU]
    rcases pickU_mem (if x.u < m.u then x else m) r with h | h
    · rw [h]
      split
      · exact .inr (by simp)
      · exact .inl rfl
    · exact .inr (List.mem_cons_of_mem _ h)
theorem minS_mem {ss : List SV} (h : 0 < ss.length) : minS ss ∈ ss := by
  cases ss with
  | nil => simp at h
  | cons x r =>
    rcases pickU_mem x r with e | e
    · simp only [minS]; rw [e]; simp
    · exact List.mem_cons_of_mem _ e
theorem length_delS_le (x : Int) (ss : List SV) : (delS x ss).length ≤ ss.length := List.length_filter_le _ _
/-- what Open leaves -/
def OpenP (clock : Int) (ss : List SV) (x : Int) (gone clock' : Int) (ss' : List SV) : Prop :=
  (openE ss x ≠ 0 ∧ gone = 0 ∧ clock' = clock ∧ ss' = ss) ∨ (openE ss x = 0 ∧ gone = goneI ss ∧ clock' = clock + 1 ∧ ss' = putS ⟨x, 0, clock + 1, none, 0, []⟩ (dropS ss))
theorem TB.delete {w w' : World} {base p b : Nat} {clock : Int} {ss : List SV} (h : TB w base p b clock ss) (x : Int) (him : IM w' b (delI x (sI ss))) (hg : w.grownBy w' (some b)) : TB w' base p b clock (delS x ss) := by
  refine ⟨h.1, h.2.1, (hg.block p h.plt fun e => h.ne (Option.some.inj e)).trans h.2.2.1, by rw [← sI_del]; exact him, fun s hs => ?_⟩
  have o := h.2.2.2.2 s (mem_delS.1 hs).1
  exact o.step fun k hk => hg.block k (o.1.lt k hk).2 fun e => h.neb o (by rw [hk, e])

set_option maxRecDepth 100000 in
set_option maxHeartbeats 4000000 in
theorem open_any (base p b : Nat) (clock : Int) (ss : List SV) (x : Int) (w : World) (h : TB w base p b clock ss) (hb : base ≤ w.heap.size) (wx : (Lit.int .i64 x).wf = true) (hc0 : 0 ≤ clock) (hc1 : clock ≤ 4611686018427400000) (hn : ss.length ≤ 100000) (hi : ∀ s ∈ ss, (Lit.int .i64 s.i).wf = true) :
    Calls Tryd.prog 9 #[.pointer (some ⟨p, 0, none⟩), .int .i64 x] w fun e w' => ∃ gone clock' ss', e = .returned (.tuple #[.int .i64 gone, errV (openE ss x)]) ∧ TB w' base p b clock' ss' ∧ OpenP clock ss x gone clock' ss' ∧ Frm (fun k => k = p ∨ k = b) w w' := by
  have c0 := h.cm
  have hlk := h.2.2.2.1.look_ok Tryd.underlying60 (zeroS w) wx
  rw [look_sI] at hlk
  have H := Lib.hid h
  have HI := Lib.hid hi
  clear hi
  cases hf : findS x ss with
  | some s =>
    rw [hf] at hlk
    simp only [Option.map_some, Option.getD_some, Option.isSome_some, sV, SV.D] at hlk
    have e1 : openE ss x = 1 := by simp [openE, hf]
    have HP := Lib.hid (show openE ss x ≠ 0 by rw [e1]; decide)
    rw [e1]
    clear h hf e1
    go_enter Tryd.func9, Tryd.ntmps9
    go_wp2_with fail
    go_ret2
    exact ⟨0, clock, ss, rfl, H.out.below (below_alloc _ _), .inl ⟨HP.out, rfl, rfl, rfl⟩, Frm.of_below (below_alloc _ _)⟩
  | none =>
    rw [hf] at hlk
    simp only [Option.map_none, Option.getD_none, Option.isSome_none, zV] at hlk
    have b1 := below_alloc w (.cells #[.int .i64 0, .int .i64 0, .int .i64 0, .slice none 0 0] 44)
    by_cases hx : x < 1
    · have e1 : openE ss x = 1 := by simp [openE, hx]
      have HP := Lib.hid (show openE ss x ≠ 0 by rw [e1]; decide)
      rw [e1]
      clear h hf e1
      go_enter Tryd.func9, Tryd.ntmps9
      go_wp2_with fail
      go_ret2
      exact ⟨0, clock, ss, rfl, H.out.below b1, .inl ⟨HP.out, rfl, rfl, rfl⟩, Frm.of_below b1⟩
    · have e1 : openE ss x = 0 := by simp [openE, hx, hf]
      have HP := Lib.hid e1
      rw [e1]
      have c0b := below_cell b1 c0
      have hlen := (h.below b1).2.2.2.1.len (t := 60) Tryd.underlying60
      have hsl : (sI ss).length = ss.length := by simp [sI]
      rw [hsl] at hlen
      clear h hf e1 hsl
      by_cases h8 : 8 ≤ ss.length
      · have h8i : (8 : Int) ≤ (ss.length : Int) := by omega
        have HG := Lib.hid (show goneI ss = (minS ss).i by simp [goneI, h8])
        have HD := Lib.hid (show dropS ss = delS (minS ss).i ss by simp [dropS, h8])
        have HL := Lib.hid (list_any base p b clock ss _ (H.out.below b1) (by omega))
        go_enter Tryd.func9, Tryd.ntmps9
        have hfd := fieldS
        have HMM := Lib.hid (minS_mem (ss := ss) (by omega))
        go_wp2_with (first
          | (go_at_call 12; refine HL.out.mono ?_; rintro e w2 ⟨v, ls, rfl, lo, b2⟩; (have hln : ls.length = ss.length := by have := congrArg List.length lo.same; simpa using this); (have own2 := lo.own); rw [hln] at own2; obtain ⟨g, cap, cur, rfl, -⟩ := row_at own2 hln (by omega); (have HMN := Lib.hid (minf_any _ ss.length cap g ls w2 own2 hln (by omega) (by omega))); (have e5 : (minS ls).i = (minS ss).i := congrArg Prod.fst (minS_core lo.same)); (have HE5 := Lib.hid e5); (have b12 := below_then b1 b1.size b2); (have HO2 := Lib.hid own2); clear own2 e5 hln)
          | (go_at_call 21; refine HMN.out.mono ?_; rintro e w3 ⟨rfl, b3⟩; (have b13 := below_then b12 b12.size b3); (have c03 := below_cell b13 c0); (have tb3 := H.out.below b13); rw [HE5.out]; (have wm := HI.out _ HMM.out); simp only [SV.D])
          | (at_delete; refine wpList_delete_I w3 rfl _ _ 60 44 rfl Tryd.underlying60 b (sI ss) rfl tb3.2.2.2.1 (minS ss).i rfl wm ?_; intro w4 im4 g4 z4; (have tb4 := tb3.delete _ im4 g4); (have fr4 : Frm (fun k => k = p ∨ k = b) w w4 := (Frm.of_below b13).trans (Frm.grown g4 fun k e => .inr (Option.some.inj e).symm)))
          | (go_at_call 24; refine (put_any base p b clock _ x 0 0 none 0 [] _ tb4 (by have := fr4.size; omega) (OD.nil _ _) wx hc0 hc1 (by have := length_delS_le (minS ss).i ss; omega)).mono ?_; rintro e w5 ⟨rfl, tb, fr⟩)
          | fail)
        go_ret2
        exact ⟨_, clock + 1, _, rfl, tb, .inr ⟨HP.out, HG.out.symm, rfl, by rw [HD.out]⟩, fr4.trans fr⟩
      · have h8i : ¬ (8 : Int) ≤ (ss.length : Int) := by omega
        have HG := Lib.hid (show goneI ss = 0 by simp [goneI, h8])
        have HD := Lib.hid (show dropS ss = ss by simp [dropS, h8])
        go_enter Tryd.func9, Tryd.ntmps9
        go_wp2_with (first
          | (go_at_call 24; refine (put_any base p b clock ss x 0 0 none 0 [] _ (H.out.below b1) (by have := b1.size; omega) (OD.nil _ _) wx hc0 hc1 (by omega)).mono ?_; rintro e w3 ⟨rfl, tb, fr⟩)
          | fail)
        go_ret2
        exact ⟨0, clock + 1, _, rfl, tb, .inr ⟨HP.out, HG.out.symm, rfl, by rw [HD.out]⟩, (Frm.of_below b1).trans fr⟩
end Go.Proofs.YtbdokphemdkhmaaDoor
