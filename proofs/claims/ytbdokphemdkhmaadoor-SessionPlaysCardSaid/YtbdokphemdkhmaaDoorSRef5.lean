/- muntinref16.Restore: the contract. -/
import Derived.Test.YtbdokphemdkhmaaDoorSRef4
import Derived.Test.YtbdokphemdkhmaaDoorSRestore
import Derived.Deep.CutRange
import Derived.BigQuiet
set_option linter.unusedVariables false
set_option linter.unusedSimpArgs false
namespace Go.Proofs.YtbdokphemdkhmaaDoor
open Go.RowKit

/-- the test of one session -/
def badQ (i : Nat) (clock z yi yl yu : Int) (m : Nat) : Prop := yi < 1 ∨ (0 < i ∧ yi ≤ z) ∨ yu < 1 ∨ clock < yu ∨ yl < 0 ∨ (yl = 0 ∧ 0 < m) ∨ 16384 < m
instance (i : Nat) (clock z yi yl yu : Int) (m : Nat) : Decidable (badQ i clock z yi yl yu m) := by unfold badQ; infer_instance
/-- the loop of the reference's Restore, under way -/
structure RRL (w : World) (q : Nat) (v : Value) (clock : Int) (ls : List SV) (wr : World) (i : Nat) (ss : List SV) : Prop where
  rt : RT wr w.heap.size q v clock ss
  lss : ss.length = i
  good : Good clock (ls.take i)
  same : ss.map core = (ls.take i).map core
  bel : Below w.heap.size w wr
/-- what the reference's Restore hands back -/
def RRestP (w : World) (clock : Int) (ls : List SV) (e : Ending) (w' : World) : Prop :=
  Below w.heap.size w w' ∧ ((restOK clock ls ∧ ∃ q v ss, e = .returned (.tuple #[.pointer (some ⟨q, 0, none⟩), .int .i64 0]) ∧ RT w' w.heap.size q v clock ss ∧ ss.map core = ls.map core) ∨ (¬ restOK clock ls ∧ e = .returned (.tuple #[.pointer none, .int .i64 1])))
theorem below_drawn {B : Nat} {w w' : World} (h : Below B w w') (m : Nat) : Below B w (w'.drewN m) := ⟨h.os, h.tape, h.output, h.size, h.block⟩
theorem Good.tops {clock : Int} {l : List SV} {i : Nat} (h : Good clock (l.take (i + 1))) (hi : i < l.length) : ∀ s ∈ l.take (i + 1), s.i ≤ (l[i]).i := fun s hs => by
  have hsucc : l.take (i + 1) = l.take i ++ [l[i]'hi] := List.take_succ_eq_append_getElem hi
  rw [hsucc] at hs
  rcases List.mem_append.1 hs with hs | hs
  · have := (h i (by simp; omega)).1 s (by rw [List.take_take, Nat.min_eq_left (by omega)]; exact hs)
    rw [List.getElem_take] at this
    omega
  · rw [List.mem_singleton.1 hs]; exact Int.le_refl _

theorem wpList_append_runb {ops : Array Oper} {rest : List Oper} {o : Oper} {a : Act} {w : World} {Q : Exit → Act → World → Prop} (hgd : o.guard = none) (s x : Operand)
    (ho : o.op = .call { callee := .builtin .append, args := #[s, x], argTypes := #[28, 28] }) (hty : o.type = 28) (v src : Value) (hs : a.eval s = v) (hx : a.eval x = src) (v' : Value) (w' : World)
    (hrun : (Builtin.append_ #[28, 28] 28 #[v, src]).run Tryd.prog w = .ok v' w') (h : wpList Tryd.prog ops Q rest (a.put o.dst v') w') : wpList Tryd.prog ops Q (o :: rest) a w := by
  refine wpList_plain hgd fun K hK => ?_
  rw [← hty] at hrun
  have hr : (Builtin.append_ #[28, 28] o.type #[v, src]).run Tryd.prog w = .ok v' w' := by rw [hty] at hrun ⊢; exact hrun
  unfold Oper.wp execOp
  simp only [ho, resolve, invoke, builtin, Sem.run_bind, Sem.run_pure, Result.andThen_ok, List.map_toArray, List.map_cons, List.map_nil, hs, hx, hr]
  exact hK _ _ h

set_option maxRecDepth 100000 in
set_option maxHeartbeats 8000000 in
theorem rrestore_any (A : Option Addr) (n c : Nat) (ls : List SV) (clock : Int) (w : World) (hr : RS w A ls) (hl : ls.length = n) (hn : n ≤ 10000000000000) :
    Calls Tryd.prog 15 #[.slice A n c, .int .i64 clock] w (RRestP w clock ls) := by
  have HR := Lib.hid hr
  have HL := Lib.hid hl
  clear hr hl
  by_cases h1 : clock < 0
  · have HB := Lib.hid (show ¬ restOK clock ls from fun h => by have := h.2.1; omega)
    go_enter Tryd.func15, Tryd.ntmps15
    go_wp2_with fail
    go_ret2
    exact ⟨Below.refl _ _, .inr ⟨HB.out, rfl⟩⟩
  · by_cases h2 : (4611686018427387904 : Int) < clock
    · have HB := Lib.hid (show ¬ restOK clock ls from fun h => by have := h.2.2.1; omega)
      go_enter Tryd.func15, Tryd.ntmps15
      go_wp2_with fail
      go_ret2
      exact ⟨Below.refl _ _, .inr ⟨HB.out, rfl⟩⟩
    · by_cases h3 : (8 : Int) < (n : Int)
      · have HB := Lib.hid (show ¬ restOK clock ls from fun h => by have := h.2.2.2; rw [HL.out] at this; omega)
        go_enter Tryd.func15, Tryd.ntmps15
        go_wp2_with fail
        go_ret2
        exact ⟨Below.refl _ _, .inr ⟨HB.out, rfl⟩⟩
      · have HC0 := Lib.hid (show 0 ≤ clock ∧ clock ≤ 4611686018427387904 ∧ n ≤ 8 by omega)
        go_enter Tryd.func15, Tryd.ntmps15
        go_wp2_with fail
        obtain ⟨q, hq⟩ : ∃ q, q = w.heap.size := ⟨_, rfl⟩
        rw [← hq]
        have bM := below_alloc w (.cells #[.slice none 0 0, .int .i64 clock] 54)
        have HR0 := Lib.hid (show RRL w q (.slice none 0 0) clock ls (w.alloc (.cells #[.slice none 0 0, .int .i64 clock] 54)) 0 [] from
          ⟨⟨by omega, by rw [hq]; exact heap_alloc_new _ _, World.ownsRow_nil _ _ _ _, by simp⟩, rfl, Good.nil _, rfl, bM⟩)
        clear hq bM h1 h2 h3
        go_loopg [7] n (fun m ti wr => ∃ (i : Nat) (v : Value) (ss : List SV), m = n - i ∧ i ≤ n ∧ ti = .int .i64 i ∧ RRL w q v clock ls wr i ss)
        case atStart => exact ⟨0, _, [], by omega, by omega, rfl, HR0.out⟩
        case round =>
          obtain ⟨i, v, ss, hm, hi, rfl, O⟩ := hrel
          have HO := Lib.hid O
          clear O HR0
          by_cases hin : i < n
          · have hin1 : (i : Int) < (n : Int) := by omega
            have hil : i < ls.length := by rw [HL.out]; exact hin
            obtain ⟨g, o, rfl, hg, hc⟩ := (HR.out.below HO.out.bel).addr (by omega)
            obtain ⟨c0, c1, c2', c3, hrd⟩ := hc i hil
            obtain ⟨y, hy⟩ : ∃ y, y = ls[i] := ⟨_, rfl⟩
            rw [← hy] at c0 c1 c2' c3 hrd
            obtain ⟨yi, yl, yu, yA, yc, yr⟩ := y
            simp only [SV.D] at c0 c1 c2' c3 hrd
            have HY := Lib.hid hy
            have bA := below_alloc wr (.cells #[.int .i64 yi, .int .i64 yl, .int .i64 yu, .slice yA yr.length yc] 44)
            have HRD := Lib.hid (hrd.below bA)
            have HBX := Lib.hid (heap_alloc_new wr (.cells #[.int .i64 yi, .int .i64 yl, .int .i64 yu, .slice yA yr.length yc] 44))
            have HCB := Lib.hid (show ∀ k (h : k < ls.length), (wr.alloc (.cells #[.int .i64 yi, .int .i64 yl, .int .i64 yu, .slice yA yr.length yc] 44)).cell? ⟨g, o + k * 4, none⟩ = some (.int .i64 (ls[k]).i) ∧ (wr.alloc (.cells #[.int .i64 yi, .int .i64 yl, .int .i64 yu, .slice yA yr.length yc] 44)).cell? ⟨g, o + k * 4 + 2, none⟩ = some (.int .i64 (ls[k]).u) from fun k h => by
              obtain ⟨e0, -, e2, -⟩ := hc k h
              exact ⟨below_cell bA e0, below_cell bA e2⟩)
            have HBEL := Lib.hid (below_then HO.out.bel HO.out.bel.size bA)
            have HZ := Lib.hid (show (wr.alloc (.cells #[.int .i64 yi, .int .i64 yl, .int .i64 yu, .slice yA yr.length yc] 44)).heap.size = wr.heap.size + 1 by simp)
            clear hc hrd hy bA
            go_wp2_with fail
            obtain ⟨W4, hW4⟩ : ∃ W4, W4 = wr.alloc (.cells #[.int .i64 yi, .int .i64 yl, .int .i64 yu, .slice yA yr.length yc] 44) := ⟨_, rfl⟩
            rw [← hW4] at HRD HBX HCB HBEL HZ ⊢
            have HW4 := Lib.hid hW4
            have d0 : ∀ m, (W4.drewN m).cell? ⟨wr.heap.size, 0, none⟩ = some (.int .i64 yi) := fun m => by rw [hW4]; exact cell_of (heap_alloc_new wr _) 0
            have d1 : ∀ m, (W4.drewN m).cell? ⟨wr.heap.size, 1, none⟩ = some (.int .i64 yl) := fun m => by rw [hW4]; exact cell_of (heap_alloc_new wr _) 1
            have d2 : ∀ m, (W4.drewN m).cell? ⟨wr.heap.size, 2, none⟩ = some (.int .i64 yu) := fun m => by rw [hW4]; exact cell_of (heap_alloc_new wr _) 2
            have d3 : ∀ m, (W4.drewN m).cell? ⟨wr.heap.size, 3, none⟩ = some (.slice yA yr.length yc) := fun m => by rw [hW4]; exact cell_of (heap_alloc_new wr _) 3
            clear hW4 c0 c1 c2' c3
            obtain ⟨z, hz⟩ : ∃ z, 0 < i → ∃ h : i - 1 < ls.length, z = (ls[i - 1]'h).i := by
              by_cases h : 0 < i
              · exact ⟨(ls[i - 1]'(by omega)).i, fun _ => ⟨by omega, rfl⟩⟩
              · exact ⟨0, fun h' => absurd h' h⟩
            have p0 := Lib.hid (show 0 < i → ∀ m, (W4.drewN m).cell? ⟨g, o + (i - 1) * 4, none⟩ = some (.int .i64 z) from fun h m => by
              obtain ⟨h1, rfl⟩ := hz h
              exact (HCB.out (i - 1) h1).1)
            have HZ1 := Lib.hid hz
            clear hz
            go_upto_region 8 with (fail)
            go_cut [84] from 24 to 112 (fun cc wx => cc = .bool (decide (badQ i clock z yi yl yu yr.length)) ∧ ∃ m, wx = W4.drewN m)
            case first =>
              by_cases h1 : yi < 1
              · have h1d : decide (yi < 1) = true := decide_eq_true h1
                go_wp2_with fail
                go_big_quiet (fail)
                go_wp2_with fail
                go_meet
                exact ⟨congrArg Value.bool (by rw [decide_eq_true (p := badQ i clock z yi yl yu yr.length) (by unfold badQ; omega)] <;> simp <;> omega), _, rfl⟩
              · have h1d : decide (yi < 1) = false := decide_eq_false h1
                by_cases hi0 : i = 0
                · have hi1 : ¬ (0 : Int) < (i : Int) := by omega
                  have hi1n : ¬ 0 < i := by omega
                  have hi1d : decide (0 < i) = false := decide_eq_false hi1n
                  clear hi0
                  by_cases h2 : yu < 1
                  · have h2d : decide (yu < 1) = true := decide_eq_true h2
                    go_wp2_with fail
                    go_big_quiet (fail)
                    go_wp2_with fail
                    go_meet
                    exact ⟨congrArg Value.bool (by rw [decide_eq_true (p := badQ i clock z yi yl yu yr.length) (by unfold badQ; omega)] <;> simp <;> omega), _, rfl⟩
                  · have h2d : decide (yu < 1) = false := decide_eq_false h2
                    by_cases h3 : clock < yu
                    · have h3d : decide (clock < yu) = true := decide_eq_true h3
                      go_wp2_with fail
                      go_big_quiet (fail)
                      go_wp2_with fail
                      go_meet
                      exact ⟨congrArg Value.bool (by rw [decide_eq_true (p := badQ i clock z yi yl yu yr.length) (by unfold badQ; omega)] <;> simp <;> omega), _, rfl⟩
                    · have h3d : decide (clock < yu) = false := decide_eq_false h3
                      by_cases h5 : yl < 0
                      · have h5d : decide (yl < 0) = true := decide_eq_true h5
                        go_wp2_with fail
                        go_big_quiet (fail)
                        go_wp2_with fail
                        go_meet
                        exact ⟨congrArg Value.bool (by rw [decide_eq_true (p := badQ i clock z yi yl yu yr.length) (by unfold badQ; omega)] <;> simp <;> omega), _, rfl⟩
                      · have h5d : decide (yl < 0) = false := decide_eq_false h5
                        by_cases h6 : yl = 0
                        · have h6b : (yl == 0) = true := by simp [h6]
                          by_cases h6c : (0 : Int) < (yr.length : Int)
                          · have h6d : decide ((0 : Int) < (yr.length : Int)) = true := decide_eq_true h6c
                            have H6 : yl ≤ 0 ∧ 0 ≤ yl := by omega
                            have h6n : 0 < yr.length := by omega
                            have h6e : decide (0 < yr.length) = true := decide_eq_true h6n
                            clear h6
                            go_wp2_with fail
                            go_big_quiet (fail)
                            go_wp2_with fail
                            go_meet
                            exact ⟨congrArg Value.bool (by rw [decide_eq_true (p := badQ i clock z yi yl yu yr.length) (by unfold badQ; omega)] <;> simp <;> omega), _, rfl⟩
                          · have h6d : decide ((0 : Int) < (yr.length : Int)) = false := decide_eq_false h6c
                            have h7 : ¬ (16384 : Int) < (yr.length : Int) := by omega
                            have h7d : decide ((16384 : Int) < (yr.length : Int)) = false := decide_eq_false h7
                            have h6n : ¬ 0 < yr.length := by omega
                            have H6 : yl ≤ 0 ∧ 0 ≤ yl := by omega
                            clear h6
                            go_wp2_with fail
                            go_big_quiet (fail)
                            go_wp2_with fail
                            go_meet
                            exact ⟨congrArg Value.bool (by rw [decide_eq_false (p := badQ i clock z yi yl yu yr.length) (by unfold badQ; omega)] <;> simp <;> omega), _, rfl⟩
                        · have h6b : (yl == 0) = false := by simp [h6]
                          by_cases h7 : (16384 : Int) < (yr.length : Int)
                          · have h7d : decide ((16384 : Int) < (yr.length : Int)) = true := decide_eq_true h7
                            go_wp2_with fail
                            go_big_quiet (fail)
                            go_wp2_with fail
                            go_meet
                            exact ⟨congrArg Value.bool (by rw [decide_eq_true (p := badQ i clock z yi yl yu yr.length) (by unfold badQ; omega)] <;> simp <;> omega), _, rfl⟩
                          · have h7d : decide ((16384 : Int) < (yr.length : Int)) = false := decide_eq_false h7
                            go_wp2_with fail
                            go_big_quiet (fail)
                            go_wp2_with fail
                            go_meet
                            exact ⟨congrArg Value.bool (by rw [decide_eq_false (p := badQ i clock z yi yl yu yr.length) (by unfold badQ; omega)] <;> simp <;> omega), _, rfl⟩
                · have hi1 : (0 : Int) < (i : Int) := by omega
                  have hi1n : 0 < i := by omega
                  have hwi : IntKind.i64.wrap ((i : Int) - 1) = ((i - 1 : Nat) : Int) := (IntWalk.i64_in _ (by omega)).trans (by omega)
                  have hi2 : ((i - 1 : Nat) : Int) < (n : Int) := by omega
                  have hi3 : ¬ (((i - 1 : Nat) : Int) < 0) := by omega
                  have p1 := p0.out (by omega)
                  have hi1d : decide (0 < i) = true := decide_eq_true hi1n
                  by_cases hzy : yi ≤ z
                  · have hzd : decide (yi ≤ z) = true := decide_eq_true hzy
                    go_wp2_with fail
                    go_big_quiet (fail)
                    go_wp2_with fail
                    go_meet
                    exact ⟨congrArg Value.bool (by rw [decide_eq_true (p := badQ i clock z yi yl yu yr.length) (by unfold badQ; omega)] <;> simp <;> omega), _, rfl⟩
                  · have hzd : decide (yi ≤ z) = false := decide_eq_false hzy
                    by_cases h2 : yu < 1
                    · have h2d : decide (yu < 1) = true := decide_eq_true h2
                      go_wp2_with fail
                      go_big_quiet (fail)
                      go_wp2_with fail
                      go_meet
                      exact ⟨congrArg Value.bool (by rw [decide_eq_true (p := badQ i clock z yi yl yu yr.length) (by unfold badQ; omega)] <;> simp <;> omega), _, rfl⟩
                    · have h2d : decide (yu < 1) = false := decide_eq_false h2
                      by_cases h3 : clock < yu
                      · have h3d : decide (clock < yu) = true := decide_eq_true h3
                        go_wp2_with fail
                        go_big_quiet (fail)
                        go_wp2_with fail
                        go_meet
                        exact ⟨congrArg Value.bool (by rw [decide_eq_true (p := badQ i clock z yi yl yu yr.length) (by unfold badQ; omega)] <;> simp <;> omega), _, rfl⟩
                      · have h3d : decide (clock < yu) = false := decide_eq_false h3
                        by_cases h5 : yl < 0
                        · have h5d : decide (yl < 0) = true := decide_eq_true h5
                          go_wp2_with fail
                          go_big_quiet (fail)
                          go_wp2_with fail
                          go_meet
                          exact ⟨congrArg Value.bool (by rw [decide_eq_true (p := badQ i clock z yi yl yu yr.length) (by unfold badQ; omega)] <;> simp <;> omega), _, rfl⟩
                        · have h5d : decide (yl < 0) = false := decide_eq_false h5
                          by_cases h6 : yl = 0
                          · have h6b : (yl == 0) = true := by simp [h6]
                            by_cases h6c : (0 : Int) < (yr.length : Int)
                            · have h6d : decide ((0 : Int) < (yr.length : Int)) = true := decide_eq_true h6c
                              have H6 : yl ≤ 0 ∧ 0 ≤ yl := by omega
                              have h6n : 0 < yr.length := by omega
                              have h6e : decide (0 < yr.length) = true := decide_eq_true h6n
                              clear h6
                              go_wp2_with fail
                              go_big_quiet (fail)
                              go_wp2_with fail
                              go_meet
                              exact ⟨congrArg Value.bool (by rw [decide_eq_true (p := badQ i clock z yi yl yu yr.length) (by unfold badQ; omega)] <;> simp <;> omega), _, rfl⟩
                            · have h6d : decide ((0 : Int) < (yr.length : Int)) = false := decide_eq_false h6c
                              have h7 : ¬ (16384 : Int) < (yr.length : Int) := by omega
                              have h7d : decide ((16384 : Int) < (yr.length : Int)) = false := decide_eq_false h7
                              have h6n : ¬ 0 < yr.length := by omega
                              have H6 : yl ≤ 0 ∧ 0 ≤ yl := by omega
                              clear h6
                              go_wp2_with fail
                              go_big_quiet (fail)
                              go_wp2_with fail
                              go_meet
                              exact ⟨congrArg Value.bool (by rw [decide_eq_false (p := badQ i clock z yi yl yu yr.length) (by unfold badQ; omega)] <;> simp <;> omega), _, rfl⟩
                          · have h6b : (yl == 0) = false := by simp [h6]
                            by_cases h7 : (16384 : Int) < (yr.length : Int)
                            · have h7d : decide ((16384 : Int) < (yr.length : Int)) = true := decide_eq_true h7
                              go_wp2_with fail
                              go_big_quiet (fail)
                              go_wp2_with fail
                              go_meet
                              exact ⟨congrArg Value.bool (by rw [decide_eq_true (p := badQ i clock z yi yl yu yr.length) (by unfold badQ; omega)] <;> simp <;> omega), _, rfl⟩
                            · have h7d : decide ((16384 : Int) < (yr.length : Int)) = false := decide_eq_false h7
                              go_wp2_with fail
                              go_big_quiet (fail)
                              go_wp2_with fail
                              go_meet
                              exact ⟨congrArg Value.bool (by rw [decide_eq_false (p := badQ i clock z yi yl yu yr.length) (by unfold badQ; omega)] <;> simp <;> omega), _, rfl⟩
            case rest =>
              obtain ⟨rfl, m4, rfl⟩ := hcut
              by_cases hb : badQ i clock z yi yl yu yr.length
              · have hbd : decide (badQ i clock z yi yl yu yr.length) = true := decide_eq_true hb
                have HBAD := Lib.hid (bad_at (clock := clock) hil (show ¬ okE clock (ls.take i) (ls[i]'hil) from by
                  rw [← HY.out]
                  rintro ⟨o1, o2, o3, o4, o5, o6, o7, o8⟩
                  simp only at o1 o2 o3 o4 o6 o7 o8
                  rcases hb with h | ⟨h0, h⟩ | h | h | h | h | h
                  · omega
                  · obtain ⟨h1, rfl⟩ := HZ1.out h0
                    have := o1 (ls[i - 1]'h1) (List.mem_take_iff_getElem.2 ⟨i - 1, by omega, rfl⟩)
                    omega
                  · omega
                  · omega
                  · omega
                  · exact o7 h
                  · omega))
                rw [hbd]
                clear hbd hb
                go_wp2_with fail
                go_ret2
                exact ⟨below_drawn HBEL.out _, .inr ⟨HBAD.out, rfl⟩⟩
              · have hbd : decide (badQ i clock z yi yl yu yr.length) = false := decide_eq_false hb
                have HGQ := Lib.hid (show (∀ s ∈ ls.take i, s.i < yi) ∧ 1 ≤ yi ∧ 1 ≤ yu ∧ yu ≤ clock ∧ 0 ≤ yl ∧ ¬ (yl = 0 ∧ 0 < yr.length) ∧ yr.length ≤ 16384 from by
                  unfold badQ at hb
                  refine ⟨fun s hs => ?_, by omega, by omega, by omega, by omega, by omega, by omega⟩
                  by_cases hi0 : i = 0
                  · subst hi0; simp at hs
                  · have hgd := HO.out.good
                    obtain ⟨h1, hz⟩ := HZ1.out (by omega)
                    obtain ⟨j, rfl⟩ : ∃ j, i = j + 1 := ⟨i - 1, by omega⟩
                    have := Good.tops hgd (by omega) s hs
                    simp only [Nat.add_sub_cancel] at hz
                    omega)
                rw [hbd]
                clear hbd hb p0
                go_wp2_with fail
                go_loopg [9] i (fun m ki w' => ∃ (k qd : Nat), m = i - k ∧ k ≤ i ∧ ki = .int .i64 k ∧ Hid (∀ j (h : j < ls.length), j < k → ls[j].u ≠ yu) ∧ w' = W4.drewN qd)
                case atStart => exact ⟨0, m4, by omega, by omega, rfl, Lib.hid (fun j h h0 => by omega), rfl⟩
                case round =>
                  obtain ⟨k, qd, hm2, hk, rfl, HP, rfl⟩ := hrel
                  by_cases hki : k < i
                  · have hki1 : (k : Int) < (i : Int) := by omega
                    have hkn : (k : Int) < (n : Int) := by omega
                    have hkl : k < ls.length := by omega
                    obtain ⟨uk, hu⟩ : ∃ u, u = (ls[k]).u := ⟨_, rfl⟩
                    have x1 : ∀ m, (W4.drewN m).cell? ⟨g, o + k * 4 + 2, none⟩ = some (.int .i64 uk) := fun m => by rw [hu]; exact (HCB.out k hkl).2
                    have HU := Lib.hid hu
                    clear hu
                    by_cases hue : uk = yu
                    · have hub : (uk == yu) = true := by simp [hue]
                      have HBAD := Lib.hid (bad_at (clock := clock) hil (show ¬ okE clock (ls.take i) (ls[i]'hil) from by
                        rw [← HY.out]
                        rintro ⟨o1, o2, o3, o4, o5, o6, o7, o8⟩
                        refine o5 (ls[k]'hkl) (List.mem_take_iff_getElem.2 ⟨k, by omega, rfl⟩) ?_
                        rw [← HU.out]; exact hue))
                      clear hue
                      go_wp2_with fail
                      go_quiet (fail)
                      go_wp2_with fail
                      go_ret2
                      exact ⟨below_drawn (below_drawn HBEL.out _) _, .inr ⟨HBAD.out, rfl⟩⟩
                    · have hub : (uk == yu) = false := by simp [hue]
                      have HUE := Lib.hid hue
                      clear hue
                      go_wp2_with fail
                      go_quiet (fail)
                      go_wp2_with fail
                      go_roundg (i - (k + 1))
                      case measure => omega
                      case rel =>
                        refine ⟨k + 1, _, by omega, by omega, by go_num, Lib.hid fun j h hj => ?_, rfl⟩
                        by_cases e : j = k
                        · subst e; rw [← HU.out]; exact HUE.out
                        · exact HP.out j h (by omega)
                  · have hki1 : ¬ (k : Int) < (i : Int) := by omega
                    have HOK := Lib.hid (show okE clock (ls.take i) (ls[i]'hil) from by
                      rw [← HY.out]
                      obtain ⟨g1, g2, g3, g4, g5, g6, g7⟩ := HGQ.out
                      refine ⟨g1, g2, g3, g4, fun s hs => ?_, g5, g6, g7⟩
                      obtain ⟨j, hj, rfl⟩ := List.mem_take_iff_getElem.1 hs
                      exact HP.out j (by omega) (by omega))
                    have bB := below_alloc (W4.drewN qd) (.cells #[] 5)
                    have d3b := below_cell bB (d3 qd)
                    obtain ⟨B1, cc1, hD1, hrb, hrc, hrl, hBn⟩ := HRD.out
                    cases hD1
                    obtain ⟨v6, w6, run6, own6, g6⟩ := run_append_bytes (w := (W4.drewN qd).alloc (.cells #[] 5)) W4.heap.size (.slice (some ⟨W4.heap.size, 0, none⟩) 0 0) 0 [] yr yA yr.length yc (World.ownsRow_made (W4.drewN qd) #[] 0 (Nat.le_refl _) (by unfold maxLen; omega) rfl) ((hrb.drewN qd).alloc _) rfl hBn (by omega) bB.size
                    obtain ⟨B2, c2, hv6, -, -⟩ := own_shape own6
                    subst hv6
                    rw [Nat.zero_add] at run6 own6
                    have hlt4 : wr.heap.size < W4.heap.size := by have := HZ.out; omega
                    have b46 : Below W4.heap.size W4 w6 := below_then (below_drawn (Below.refl _ W4) qd) (Nat.le_refl _) (bB.grown g6 bB.size (fun k hk => by
                      have hk : W4.heap.size = k := Option.some.inj hk
                      subst hk
                      exact Nat.le_refl _))
                    have hbx6 := (b46.block _ hlt4).trans HBX.out
                    have k3 : w6.cell? ⟨wr.heap.size, 3, none⟩ = some (.slice yA yr.length yc) := cell_of hbx6 3
                    have f3 := frozen_of hbx6 3
                    have HW6 := Lib.hid (show Below wr.heap.size wr w6 from by
                      have e : Below wr.heap.size wr W4 := by rw [HW4.out]; exact below_alloc _ _
                      exact below_then e e.size (b46.mono (by omega)))
                    have HBX7 := Lib.hid (show (w6.setCell ⟨wr.heap.size, 3, none⟩ (.slice B2 yr.length c2)).heap[wr.heap.size]? = some (.cells #[.int .i64 yi, .int .i64 yl, .int .i64 yu, .slice B2 yr.length c2] 44 (0, 0)) from by rw [heap_setCell_same _ _ _ _ _ _ hbx6]; rfl)
                    have O6 := Lib.hid (show OD w6 W4.heap.size (.slice B2 yr.length c2) yr from ⟨by simpa using own6, hrl⟩)
                    clear own6 g6 hbx6 b46 bB hrb
                    go_wp2_with (at_builtin; refine wpList_append_runb rfl (.tmp 98) (.tmp 100) rfl rfl _ _ rfl rfl _ _ run6 ?_)
                    obtain ⟨w7, hw7⟩ : ∃ w7, w7 = w6.setCell ⟨wr.heap.size, 3, none⟩ (.slice B2 yr.length c2) := ⟨_, rfl⟩
                    rw [← hw7] at HBX7 ⊢
                    have b7 : Below wr.heap.size wr w7 := by rw [hw7]; exact HW6.out.setCell (Nat.le_refl _) _
                    have O7 : OD w7 W4.heap.size (.slice B2 yr.length c2) yr := by
                      rw [hw7]
                      exact O6.out.step fun k hk => heap_setCell_other _ _ _ _ fun e => by
                        have := (O6.out.1.lt k hk).1
                        have e : k = wr.heap.size := e
                        omega
                    have T7 : RT w7.drew w.heap.size q v clock ss := (HO.out.rt.below b7).step rfl (fun _ _ => rfl) (fun _ _ _ _ => rfl)
                    have hlt7 : wr.heap.size < w7.heap.size := (Array.getElem?_eq_some_iff.1 HBX7.out).1
                    have hS7 : w7.drew.cell? ⟨q, 0, none⟩ = some v ∧ w7.drew.cell? ⟨wr.heap.size, 0, none⟩ = some (.int .i64 yi) ∧ w7.drew.cell? ⟨wr.heap.size, 1, none⟩ = some (.int .i64 yl) ∧ w7.drew.cell? ⟨wr.heap.size, 2, none⟩ = some (.int .i64 yu) ∧ w7.drew.cell? ⟨wr.heap.size, 3, none⟩ = some (.slice B2 yr.length c2) :=
                      ⟨T7.c0, cell_of (w := w7.drew) HBX7.out 0, cell_of (w := w7.drew) HBX7.out 1, cell_of (w := w7.drew) HBX7.out 2, cell_of (w := w7.drew) HBX7.out 3⟩
                    obtain ⟨w8, hw8⟩ : ∃ w8, w8 = w7.drew.alloc (.cells #[.int .i64 yi, .int .i64 yl, .int .i64 yu, .slice B2 yr.length c2] 44) := ⟨_, rfl⟩
                    have b8 : Below w7.heap.size w7.drew w8 := by rw [hw8]; exact below_alloc w7.drew _
                    have T8 : RT w8 w.heap.size q v clock ss := T7.below b8
                    have hbx8 : w8.heap[wr.heap.size]? = some (.cells #[.int .i64 yi, .int .i64 yl, .int .i64 yu, .slice B2 yr.length c2] 44 (0, 0)) := (b8.block _ hlt7).trans HBX7.out
                    have hS8 : w8.cell? ⟨q, 0, none⟩ = some v ∧ w8.cell? ⟨wr.heap.size, 0, none⟩ = some (.int .i64 yi) ∧ w8.cell? ⟨wr.heap.size, 1, none⟩ = some (.int .i64 yl) ∧ w8.cell? ⟨wr.heap.size, 2, none⟩ = some (.int .i64 yu) ∧ w8.cell? ⟨wr.heap.size, 3, none⟩ = some (.slice B2 yr.length c2) :=
                      ⟨T8.c0, cell_of hbx8 0, cell_of hbx8 1, cell_of hbx8 2, cell_of hbx8 3⟩
                    have hlss := HO.out.lss
                    have hbase := HO.out.bel.size
                    have hb7z := b7.size
                    have hb8z : w7.heap.size ≤ w8.heap.size := b8.size
                    obtain ⟨v9, w9, run9, own9, g9, -⟩ := run_append_sess (w := w8) w.heap.size v ss.length ss T8.2.2.1 (some ⟨w7.heap.size, 0, none⟩) 1 1 [⟨yi, yl, yu, B2, c2, yr⟩] rfl (fun h => by cases h) (fun a ha => by
                      cases ha
                      rw [hw8]
                      exact World.news_of_block (cs := #[.int .i64 yi, .int .i64 yl, .int .i64 yu, .slice B2 yr.length c2]) (t := 44) (fr := (0, 0)) (heap_alloc_new w7.drew _)) (by have := HC0.out; omega) (by omega)
                    have hvlt := (HO.out.rt.2.2.1).lt
                    have hq9 : w9.heap[q]? = w8.heap[q]? := g9.block q T8.lt (fun e => row_ne T8.2.2.1 T8.2.1 (by decide) e.symm)
                    have hbx9 := (g9.block wr.heap.size (by omega) (fun e => by have := (hvlt _ e.symm).2; omega)).trans hbx8
                    have hc9 : w9.cell? ⟨q, 0, none⟩ = some v := (World.cell?_of_block (w := w8) hq9).trans T8.c0
                    have hf9 : w9.frozen? ⟨q, 0, none⟩ = false := frozen_of (hq9.trans T8.2.1) 0
                    have hS9 : w9.cell? ⟨q, 0, none⟩ = some v ∧ w9.cell? ⟨wr.heap.size, 0, none⟩ = some (.int .i64 yi) ∧ w9.cell? ⟨wr.heap.size, 1, none⟩ = some (.int .i64 yl) ∧ w9.cell? ⟨wr.heap.size, 2, none⟩ = some (.int .i64 yu) ∧ w9.cell? ⟨wr.heap.size, 3, none⟩ = some (.slice B2 yr.length c2) :=
                      ⟨hc9, cell_of hbx9 0, cell_of hbx9 1, cell_of hbx9 2, cell_of hbx9 3⟩
                    have HN := Lib.hid (show RRL w q v9 clock ls (w9.setCell ⟨q, 0, none⟩ v9) (i + 1) (ss ++ [⟨yi, yl, yu, B2, c2, yr⟩]) from by
                      have hsucc : ls.take (i + 1) = ls.take i ++ [ls[i]'hil] := List.take_succ_eq_append_getElem hil
                      have hkeep : ∀ {D : Value} {d : List UInt8}, OD w8 w.heap.size D d → OD w9 w.heap.size D d := fun o => o.step fun k hk => g9.block k (o.1.lt k hk).2 (fun e => row_types o.1 T8.2.2.1 (by decide) k hk e.symm)
                      refine ⟨T8.reput hq9 (by simp) own9 (fun s hs => ?_), by simp [hlss], Good.step HO.out.good hil HOK.out, ?_, ?_⟩
                      · rcases List.mem_append.1 hs with hs | hs
                        · exact hkeep (T8.2.2.2 s hs)
                        · rw [List.mem_singleton.1 hs]
                          refine hkeep (OD.lower ?_ (show w.heap.size ≤ W4.heap.size by omega))
                          exact OD.below (w := w7.drew) (O7.step fun k _ => rfl) b8
                      · rw [hsucc, List.map_append, List.map_append, HO.out.same]
                        simp only [List.map_cons, List.map_nil]
                        rw [← HY.out]
                        rfl
                      · have e7 : Below w.heap.size w w7 := below_then HO.out.bel hbase b7
                        have e8 : Below w.heap.size w w8 := below_then (below_drawn e7 1) e7.size b8
                        exact (e8.grown g9 e8.size (fun k hk => (T8.2.2.1.lt k hk).1)).setCell T8.1 _)
                    have HW8 := Lib.hid hw8
                    obtain ⟨A9, c9, hv9, -, -⟩ := own_shape own9
                    subst hv9
                    rw [hlss] at run9 HN
                    clear hlss own9 g9 b7 b8 T7 T8 O7 hbx8 hbx9 hvlt hq9 hw7 hw8 k3 f3 d3b
                    refine wp_region_Z (fun w' => w'.cell? ⟨q, 0, none⟩ = some v ∧ w'.cell? ⟨wr.heap.size, 0, none⟩ = some (.int .i64 yi) ∧ w'.cell? ⟨wr.heap.size, 1, none⟩ = some (.int .i64 yl) ∧ w'.cell? ⟨wr.heap.size, 2, none⟩ = some (.int .i64 yu) ∧ w'.cell? ⟨wr.heap.size, 3, none⟩ = some (.slice B2 yr.length c2)) 10 (by kernel_rfl) hS7 (fun hHeld => ?_)
                    refine wpAnyZ_take (i := 0) (v := ?_) rfl (by kernel_rfl) (by kernel_rfl) (by kernel_rfl) (by kernel_rfl) (by decide) (fun _ _ _ h => h) (by rfl) ?_ (by assumption) ?_
                    rotate_left
                    · (intro w hSw; (try dsimp only at hSw); go_simp) <;> with_reducible rfl
                    try simp only [Act.put, List.getElem_toArray, List.getElem_cons_zero, List.getElem_cons_succ, List.setIfInBounds_toArray, List.set_cons_zero, List.set_cons_succ]
                    refine wpAnyZ_take (i := 1) (v := ?_) rfl (by kernel_rfl) (by kernel_rfl) (by kernel_rfl) (by kernel_rfl) (by decide) (fun _ _ _ h => h) (by rfl) ?_ (by assumption) ?_
                    rotate_left
                    · (intro w hSw; (try dsimp only at hSw); go_simp) <;> with_reducible rfl
                    try simp only [Act.put, List.getElem_toArray, List.getElem_cons_zero, List.getElem_cons_succ, List.setIfInBounds_toArray, List.set_cons_zero, List.set_cons_succ]
                    refine wpAnyZ_take (i := 2) (v := ?_) rfl (by kernel_rfl) (by kernel_rfl) (by kernel_rfl) (by kernel_rfl) (by decide) (fun _ _ _ h => h) (by rfl) ?_ (by assumption) ?_
                    rotate_left
                    · (intro w hSw; (try dsimp only at hSw); go_simp) <;> with_reducible rfl
                    try simp only [Act.put, List.getElem_toArray, List.getElem_cons_zero, List.getElem_cons_succ, List.setIfInBounds_toArray, List.set_cons_zero, List.set_cons_succ]
                    refine wpAnyZ_take (i := 3) (v := ?_) rfl (by kernel_rfl) (by kernel_rfl) (by kernel_rfl) (by kernel_rfl) (by decide) (fun _ _ _ h => h) (by rfl) ?_ (by assumption) ?_
                    rotate_left
                    · (intro w hSw; (try dsimp only at hSw); go_simp) <;> with_reducible rfl
                    try simp only [Act.put, List.getElem_toArray, List.getElem_cons_zero, List.getElem_cons_succ, List.setIfInBounds_toArray, List.set_cons_zero, List.set_cons_succ]
                    refine wpAnyZ_take (i := 4) (v := ?_) rfl (by kernel_rfl) (by kernel_rfl) (by kernel_rfl) (by kernel_rfl) (by decide) (fun _ _ _ h => h) (by rfl) ?_ (by assumption) ?_
                    rotate_left
                    · (intro w hSw; (try dsimp only at hSw); go_simp) <;> with_reducible rfl
                    try simp only [Act.put, List.getElem_toArray, List.getElem_cons_zero, List.getElem_cons_succ, List.setIfInBounds_toArray, List.set_cons_zero, List.set_cons_succ]
                    refine wpAnyZ_take (i := 5) (v := ?_) rfl (by kernel_rfl) (by kernel_rfl) (by kernel_rfl) (by kernel_rfl) (by decide) (fun _ _ _ h => h) (by rfl) ?_ (by assumption) ?_
                    rotate_left
                    · (intro w hSw; (try dsimp only at hSw); go_simp) <;> with_reducible rfl
                    try simp only [Act.put, List.getElem_toArray, List.getElem_cons_zero, List.getElem_cons_succ, List.setIfInBounds_toArray, List.set_cons_zero, List.set_cons_succ]
                    refine wpAnyZ_step (i := 6) rfl (by kernel_rfl) (fun K hK => ?_)
                    go_simp
                    rw [show (w7.alloc (.cells #[.int .i64 yi, .int .i64 yl, .int .i64 yu, .slice B2 yr.length c2] 44)).drew = w8 from HW8.out.symm]
                    refine hK.out _ _ (fun _ => hS8) ?_
                    clear hK K
                    try simp only [Act.put, List.getElem_toArray, List.getElem_cons_zero, List.getElem_cons_succ, List.setIfInBounds_toArray, List.set_cons_zero, List.set_cons_succ]
                    refine wpAnyZ_step (i := 7) rfl (by kernel_rfl) (fun K hK => ?_)
                    refine step_append_run rfl (.tmp 107) (.tmp 109) rfl rfl _ _ rfl rfl _ _ run9 ?_
                    refine hK.out _ _ (fun _ => hS9) ?_
                    clear hK K
                    try simp only [Act.put, List.getElem_toArray, List.getElem_cons_zero, List.getElem_cons_succ, List.setIfInBounds_toArray, List.set_cons_zero, List.set_cons_succ]
                    refine wpAnyZ_take (i := 8) (v := ?_) rfl (by kernel_rfl) (by kernel_rfl) (by kernel_rfl) (by kernel_rfl) (by decide) (fun _ _ _ h => h) (by rfl) ?_ (by assumption) ?_
                    rotate_left
                    · (intro w hSw; (try dsimp only at hSw); go_simp) <;> with_reducible rfl
                    try simp only [Act.put, List.getElem_toArray, List.getElem_cons_zero, List.getElem_cons_succ, List.setIfInBounds_toArray, List.set_cons_zero, List.set_cons_succ]
                    refine wpAnyZ_take (i := 9) (v := ?_) rfl (by kernel_rfl) (by kernel_rfl) (by kernel_rfl) (by kernel_rfl) (by decide) (fun _ _ _ h => h) (by rfl) ?_ (by assumption) ?_
                    rotate_left
                    · (intro w hSw; (try dsimp only at hSw); go_simp) <;> with_reducible rfl
                    try simp only [Act.put, List.getElem_toArray, List.getElem_cons_zero, List.getElem_cons_succ, List.setIfInBounds_toArray, List.set_cons_zero, List.set_cons_succ]
                    refine wpAnyZ_step (i := 10) rfl (by kernel_rfl) (fun K hK => ?_)
                    go_simp
                    refine hK.out _ _ (fun h => absurd rfl h) ?_
                    clear hK K
                    try simp only [Act.put, List.getElem_toArray, List.getElem_cons_zero, List.getElem_cons_succ, List.setIfInBounds_toArray, List.set_cons_zero, List.set_cons_succ]
                    refine wpAnyZ_done (by kernel_rfl) ?_
                    refine NoPanic.normal ?_
                    go_wp2_with fail
                    go_roundg (n - (i + 1))
                    case measure => omega
                    case rel => exact ⟨i + 1, _, _, by omega, by omega, by go_num, HN.out⟩
          · obtain rfl : i = n := by omega
            have hin1 : ¬ (i : Int) < (i : Int) := by omega
            have htk : ls.take i = ls := List.take_of_length_le (by rw [HL.out]; omega)
            have HG := Lib.hid (show Good clock ls by have := HO.out.good; rwa [htk] at this)
            have HSM := Lib.hid (show ss.map core = ls.map core by have := HO.out.same; rwa [htk] at this)
            clear htk hin
            go_wp2_with fail
            go_ret2
            exact ⟨HO.out.bel, .inl ⟨⟨HG.out, by have := HC0.out; omega, by have := HC0.out; omega, by rw [HL.out]; have := HC0.out; omega⟩, q, v, ss, rfl, HO.out.rt, HSM.out⟩⟩
end Go.Proofs.YtbdokphemdkhmaaDoor
