/- muntinref16.Table: what it is in memory; find, Ask. -/
import Derived.Test.YtbdokphemdkhmaaDoorSCore
import Derived.Test.YtbdokphemdkhmaaDoorSessionFew
set_option linter.unusedVariables false
set_option linter.unusedSimpArgs false
namespace Go.Proofs.YtbdokphemdkhmaaDoor
open Go.RowKit

/-- the reference's table: its block q, its row v -/
def RT (w : World) (base q : Nat) (v : Value) (clock : Int) (ls : List SV) : Prop :=
  base ≤ q ∧ w.heap[q]? = some (.cells #[v, .int .i64 clock] 54 (0, 0)) ∧ w.ownsRow base 44 4 v ls.length (scells ls) ∧ ∀ s ∈ ls, OD w base s.D s.r
def RTk (q : Nat) (v : Value) (k : Nat) : Prop := k = q ∨ v.ownBlock = some k
theorem RT.lt {w : World} {base q : Nat} {v : Value} {clock : Int} {ls : List SV} (h : RT w base q v clock ls) : q < w.heap.size := (Array.getElem?_eq_some_iff.1 h.2.1).1
theorem RT.step {w w' : World} {base q : Nat} {v : Value} {clock : Int} {ls : List SV} (h : RT w base q v clock ls) (h1 : w'.heap[q]? = w.heap[q]?) (h2 : ∀ k, v.ownBlock = some k → w'.heap[k]? = w.heap[k]?) (h3 : ∀ s ∈ ls, ∀ k, s.D.ownBlock = some k → w'.heap[k]? = w.heap[k]?) : RT w' base q v clock ls :=
  ⟨h.1, h1.trans h.2.1, own_step h.2.2.1 h2, fun s hs => (h.2.2.2 s hs).step (h3 s hs)⟩
theorem RT.below {w w' : World} {base q : Nat} {v : Value} {clock : Int} {ls : List SV} (h : RT w base q v clock ls) (b : Below w.heap.size w w') : RT w' base q v clock ls :=
  h.step (b.block q h.lt) (fun k hk => b.block k (h.2.2.1.lt k hk).2) (fun s hs k hk => b.block k ((h.2.2.2 s hs).1.lt k hk).2)
theorem RT.c0 {w : World} {base q : Nat} {v : Value} {clock : Int} {ls : List SV} (h : RT w base q v clock ls) : w.cell? ⟨q, 0, none⟩ = some v := by rw [cell_of h.2.1]; rfl
theorem RT.c1 {w : World} {base q : Nat} {v : Value} {clock : Int} {ls : List SV} (h : RT w base q v clock ls) : w.cell? ⟨q, 1, none⟩ = some (.int .i64 clock) := by rw [cell_of h.2.1]; rfl
theorem RT.shape {w : World} {base q : Nat} {v : Value} {clock : Int} {ls : List SV} (h : RT w base q v clock ls) : ∃ A c, v = .slice A ls.length c ∧ RS w A ls ∧ (A = none → c = 0) := by
  obtain ⟨A, c, hv, -, hA⟩ := own_shape h.2.2.1
  subst hv
  exact ⟨A, c, rfl, row_rs h.2.2.1 rfl fun s hs => (h.2.2.2 s hs).rd, hA⟩
/-- a row of sessions lies in another block than what has another type -/
theorem row_ne {w : World} {base m g : Nat} {v : Value} {xs : List Value} {cur : Array Value} {t : TypeId} {fr : Nat × Nat} (h : w.ownsRow base 44 4 v m xs) (hg : w.heap[g]? = some (.cells cur t fr)) (ht : t ≠ 44) : v.ownBlock ≠ some g := by
  intro e
  rcases h.2 with ⟨rfl, _⟩ | ⟨g', cap, cur', rfl, _, hg', _⟩
  · simp [Value.ownBlock] at e
  · simp [Value.ownBlock] at e
    subst e
    rw [hg] at hg'
    injection hg' with hg'
    injection hg' with _ h2
    exact ht h2
theorem row_ne_map {w : World} {base m b : Nat} {v : Value} {xs : List Value} {es : IVs} (h : w.ownsRow base 44 4 v m xs) (hm : IM w b es) : v.ownBlock ≠ some b := by
  intro e
  obtain ⟨_, _, _, h2, _⟩ := hm
  rcases h.2 with ⟨rfl, _⟩ | ⟨g', cap, cur', rfl, _, hg', _⟩
  · simp [Value.ownBlock] at e
  · simp [Value.ownBlock] at e
    subst e
    rw [h2] at hg'
    cases hg'
theorem od_ne {w : World} {base g : Nat} {D : Value} {r : List UInt8} {cur : Array Value} {t : TypeId} {fr : Nat × Nat} (ho : OD w base D r) (hg : w.heap[g]? = some (.cells cur t fr)) (ht : t ≠ 5) : D.ownBlock ≠ some g := by
  intro e
  rcases ho.1.2 with ⟨rfl, _⟩ | ⟨g', cap, cur', rfl, _, hg', _⟩
  · simp [Value.ownBlock] at e
  · simp [Value.ownBlock] at e
    subst e
    rw [hg] at hg'
    injection hg' with hg'
    injection hg' with _ h2
    exact ht h2
/-- what the reference does keeps the other table -/
theorem TB.framedR {w w' : World} {base p b base2 q : Nat} {v : Value} {clock clock2 : Int} {ss ls : List SV} (h : TB w base p b clock ss) (t : RT w base2 q v clock2 ls) (f : Frm (RTk q v) w w') : TB w' base p b clock ss := by
  refine h.step ?_
  rintro k (rfl | rfl | ⟨s, hs, hk⟩)
  · refine f.block _ h.plt ?_
    rintro (e | e)
    · have h1 := h.2.2.1
      rw [e, t.2.1] at h1
      injection h1 with h1
      injection h1 with _ h2
      exact absurd h2 (by decide)
    · exact row_ne t.2.2.1 h.2.2.1 (by decide) e
  · refine f.block _ h.2.2.2.1.lt ?_
    rintro (e | e)
    · obtain ⟨_, _, _, ⟨_, _, _, h2, _⟩, _⟩ := h
      rw [e, t.2.1] at h2
      cases h2
    · exact row_ne_map t.2.2.1 h.2.2.2.1 e
  · have o := h.2.2.2.2 s hs
    refine f.block k (o.1.lt k hk).2 ?_
    rintro (e | e)
    · exact od_ne o t.2.1 (by decide) (by rw [hk, e])
    · exact row_types o.1 t.2.2.1 (by decide) k hk e
theorem RT.framedT {w w' : World} {base p b base2 q : Nat} {v : Value} {clock clock2 : Int} {ss ls : List SV} (h : RT w base2 q v clock2 ls) (t : TB w base p b clock ss) (f : Frm (fun k => k = p ∨ k = b) w w') : RT w' base2 q v clock2 ls := by
  have hq : ¬ (q = p ∨ q = b) := by
    rintro (e | e)
    · have h1 := t.2.2.1
      rw [← e, h.2.1] at h1
      injection h1 with h1
      injection h1 with _ h2
      exact absurd h2 (by decide)
    · obtain ⟨_, _, _, ⟨_, _, _, h2, _⟩, _⟩ := t
      rw [← e, h.2.1] at h2
      cases h2
  refine h.step (f.block q h.lt hq) (fun k hk => f.block k (h.2.2.1.lt k hk).2 ?_) (fun s hs k hk => f.block k ((h.2.2.2 s hs).1.lt k hk).2 ?_)
  · rintro (e | e)
    · exact row_ne h.2.2.1 t.2.2.1 (by decide) (by rw [hk, e])
    · exact row_ne_map h.2.2.1 t.2.2.2.1 (by rw [hk, e])
  · rintro (e | e)
    · exact t.nep (h.2.2.2 s hs) (by rw [hk, e])
    · exact t.neb (h.2.2.2 s hs) (by rw [hk, e])

set_option maxRecDepth 100000 in
set_option maxHeartbeats 4000000 in
theorem rfind_any (base q : Nat) (v : Value) (clock : Int) (ls : List SV) (x : Int) (w : World) (t : RT w base q v clock ls) (hris : risS ls) (hn : ls.length ≤ 1000) :
    Calls Tryd.prog 42 #[.pointer (some ⟨q, 0, none⟩), .int .i64 x] w fun e w' => w' = w ∧ ((e = .returned (.int .i64 (-1)) ∧ findS x ls = none) ∨ ∃ (k : Nat) (h : k < ls.length), e = .returned (.int .i64 k) ∧ findS x ls = some ls[k]) := by
  obtain ⟨A, c, rfl, hrs, -⟩ := t.shape
  have c0 := t.c0
  have HR := Lib.hid hrs
  have HI := Lib.hid hris
  clear t hrs hris
  go_enter Tryd.func42, Tryd.ntmps42
  go_wp2_with fail
  go_loopg [5] ls.length (fun m ki wr => ∃ k : Nat, m = ls.length - k ∧ k ≤ ls.length ∧ ki = .int .i64 k ∧ Hid (∀ j (h : j < ls.length), j < k → ls[j].i ≠ x) ∧ wr = w)
  case atStart => exact ⟨0, rfl, by omega, rfl, Lib.hid (fun j h h0 => by omega), rfl⟩
  case round =>
    obtain ⟨k, hm, hk, rfl, HP, rfl⟩ := hrel
    by_cases hkl : k < ls.length
    · have hkl1 : (k : Int) < (ls.length : Int) := by omega
      obtain ⟨g, o, rfl, hg, hc⟩ := HR.out.addr (by omega)
      obtain ⟨a0, -⟩ := hc k hkl
      obtain ⟨y, hy⟩ : ∃ y, y = (ls[k]).i := ⟨_, rfl⟩
      rw [← hy] at a0
      have HY := Lib.hid hy
      clear hc hy
      by_cases hx : y = x
      · have hb : (y == x) = true := by simp [hx]
        have HX := Lib.hid hx
        clear hx
        go_wp2_with fail
        go_ret
        refine ⟨rfl, .inr ⟨k, hkl, rfl, ?_⟩⟩
        have := findS_of_mem HI.out (List.getElem_mem hkl)
        rwa [← HY.out, HX.out] at this
      · have hb : (y == x) = false := by simp [hx]
        have HX := Lib.hid hx
        clear hx
        go_wp2_with fail
        go_roundg (ls.length - (k + 1))
        case measure => omega
        case rel =>
          refine ⟨k + 1, rfl, by omega, by go_num, Lib.hid fun j h hj => ?_, rfl⟩
          by_cases e : j = k
          · subst e; rw [← HY.out]; exact HX.out
          · exact HP.out j h (by omega)
    · have hkl1 : ¬ (k : Int) < (ls.length : Int) := by omega
      go_wp2_with fail
      go_ret
      refine ⟨rfl, .inl ⟨rfl, ?_⟩⟩
      cases hf : findS x ls with
      | none => rfl
      | some s =>
        obtain ⟨h1, h2⟩ := findS_mem hf
        obtain ⟨j, hj, rfl⟩ := List.getElem_of_mem h1
        exact absurd h2 (HP.out j hj (by omega))

set_option maxRecDepth 100000 in
set_option maxHeartbeats 4000000 in
theorem rask_any (base q : Nat) (v : Value) (clock : Int) (ls : List SV) (x qn : Int) (w : World) (t : RT w base q v clock ls) (hris : risS ls) (hn : ls.length ≤ 1000) :
    Calls Tryd.prog 30 #[.pointer (some ⟨q, 0, none⟩), .int .i64 x, .int .i64 qn] w fun e w' => ∃ D, e = .returned (.tuple #[.int .i64 (askK ls x qn), D]) ∧ OD w' w.heap.size D (askR ls x qn) ∧ Below w.heap.size w w' := by
  have HF := Lib.hid (rfind_any base q v clock ls x w t hris hn)
  have hod := t.2.2.2
  obtain ⟨A, c, rfl, hrs, -⟩ := t.shape
  have c0 := t.c0
  have HR := Lib.hid hrs
  have HO := Lib.hid hod
  clear t hrs hris hod
  go_enter Tryd.func30, Tryd.ntmps30
  go_wp2_with fail
  refine HF.out.mono ?_
  rintro e w1 ⟨rfl, ⟨rfl, hf⟩ | ⟨k, hk, rfl, hf⟩⟩
  · have e1 : askK ls x qn = 4 := by simp [askK, hf]
    have e2 : askR ls x qn = [] := by simp [askR, hf]
    have HE1 := Lib.hid e1
    have HE2 := Lib.hid e2
    clear e1 e2
    clear hf
    go_wp2_with fail
    go_ret2
    exact ⟨_, by rw [HE1.out]; rfl, by rw [HE2.out]; exact OD.nil _ _, Below.refl _ _⟩
  · obtain ⟨g, o, hA, hg, hc⟩ := HR.out.addr (by omega)
    subst hA
    obtain ⟨-, a1, -, a3, hrd⟩ := hc k hk
    have ho := HO.out _ (List.getElem_mem hk)
    obtain ⟨s, hs⟩ : ∃ s, s = ls[k] := ⟨_, rfl⟩
    rw [← hs] at a1 a3 hf hrd ho
    have HRD := Lib.hid hrd
    have hki : (k : Int) < (ls.length : Int) := by omega
    have hk0 : ¬ (k : Int) < 0 := by omega
    simp only [SV.D] at a3
    clear hc hs hrd ho
    by_cases h1 : s.l < qn
    · have e1 : askK ls x qn = 1 := by simp [askK, hf, h1]
      have e2 : askR ls x qn = [] := by simp [askR, hf, h1]
      have HE1 := Lib.hid e1
      have HE2 := Lib.hid e2
      clear e1 e2
      clear hf
      go_wp2_with fail
      go_ret2
      exact ⟨_, by rw [HE1.out]; rfl, by rw [HE2.out]; exact OD.nil _ _, Below.refl _ _⟩
    · by_cases h2 : qn = s.l ∧ qn ≠ 0
      · obtain ⟨h2, h3⟩ := h2
        have e1 : askK ls x qn = 2 := by simp [askK, hf]; omega
        have e2 : askR ls x qn = s.r := by
          simp only [askR, hf]
          rw [if_neg (by omega), if_neg (by omega)]
        have HE1 := Lib.hid e1
        have HE2 := Lib.hid e2
        clear e1 e2
        have b1 : (qn == s.l) = true := by simp [h2]
        have b2 : (qn != 0) = true := by simp [h3]
        have hrd := HRD.out
        obtain ⟨B, cc, hD, hrb, hcc, hlen, hBn⟩ := hrd
        simp only [SV.D] at hD
        cases hD
        have HRB := Lib.hid hrb
        have HBN := Lib.hid hBn
        have bE := below_alloc w1 (.cells #[] 5)
        have c0b := below_cell bE c0
        have a3b := below_cell bE a3
        clear hf h2 h3 hrb hBn
        go_wp2_with (at_builtin; refine wpList_append_bytes (w := w1.alloc (.cells #[] 5)) rfl (.tmp 41) (.tmp 49) rfl w1.heap.size (.slice (some ⟨w1.heap.size, 0, none⟩) 0 0) [] s.r 0 s.r.length s.c s.A rfl rfl (World.ownsRow_made w1 #[] 0 (Nat.le_refl _) (by unfold maxLen; omega) rfl) (HRB.out.alloc _) rfl HBN.out rfl (by omega) (by simp) ?_; intro v' w' own hg2)
        go_ret2
        exact ⟨_, by rw [HE1.out]; rfl, by rw [HE2.out]; exact ⟨by simpa using own, hlen⟩, (below_alloc _ _).grown hg2 (by simp) (fun k hk => by simp [Value.ownBlock] at hk; omega)⟩
      · have e1 : askK ls x qn = 3 := by
          simp only [askK, hf]
          rw [if_neg h1, if_pos (by omega)]
        have e2 : askR ls x qn = [] := by
          simp only [askR, hf]
          rw [if_neg h1, if_pos (by omega)]
        have HE1 := Lib.hid e1
        have HE2 := Lib.hid e2
        clear e1 e2
        by_cases h3 : qn = s.l
        · have b1 : (qn == s.l) = true := by simp [h3]
          have b2 : (qn != 0) = false := by simp; omega
          clear hf h2 h3
          go_wp2_with fail
          go_ret2
          exact ⟨_, by rw [HE1.out]; rfl, by rw [HE2.out]; exact OD.nil _ _, Below.refl _ _⟩
        · have b1 : (qn == s.l) = false := by simp [h3]
          clear hf h2 h3
          go_wp2_with fail
          go_ret2
          exact ⟨_, by rw [HE1.out]; rfl, by rw [HE2.out]; exact OD.nil _ _, Below.refl _ _⟩
end Go.Proofs.YtbdokphemdkhmaaDoor
