/- slices.SortFunc on sessions, by Id; a row of sessions as the sort's words have it. -/
import Derived.Test.YtbdokphemdkhmaaDoorSNote
import Derived.Test.YtbdokphemdkhmaaDoorShelf
import Derived.Shelf.SlSortCmp.WholeK
import Derived.Laws.OwnMore
set_option linter.unusedVariables false
set_option linter.unusedSimpArgs false
namespace Go.Proofs.YtbdokphemdkhmaaDoor
open Go.RowKit Go.Sort Go.Shelf

def enc4 (s : SV) : List Value := [.int .i64 s.i, .int .i64 s.l, .int .i64 s.u, s.D]
def scells (ls : List SV) : List Value := ls.flatMap enc4
theorem enc4_len (s : SV) : (enc4 s).length = 4 := rfl
theorem enc4_one (s : SV) : ∀ v ∈ enc4 s, v.oneCell' = true := by
  intro v hv
  simp [enc4, SV.D] at hv
  rcases hv with rfl | rfl | rfl | rfl <;> rfl
theorem scells_nil : scells [] = [] := rfl
theorem scells_cons (s : SV) (ls : List SV) : scells (s :: ls) = .int .i64 s.i :: .int .i64 s.l :: .int .i64 s.u :: s.D :: scells ls := rfl
theorem scells_append (a b : List SV) : scells (a ++ b) = scells a ++ scells b := by simp [scells]
theorem scells_length : ∀ ls : List SV, (scells ls).length = ls.length * 4
  | [] => rfl
  | s :: r => by rw [scells_cons]; simp only [List.length_cons, scells_length r]; omega
theorem scells_one (ls : List SV) : ∀ v ∈ scells ls, v.oneCell' = true := by
  intro v hv
  obtain ⟨s, _, h⟩ := List.mem_flatMap.1 hv
  exact enc4_one s v h
theorem scells_get : ∀ (ls : List SV) (i : Nat) (h : i < ls.length),
    (scells ls)[i * 4]? = some (.int .i64 ls[i].i) ∧ (scells ls)[i * 4 + 1]? = some (.int .i64 ls[i].l) ∧ (scells ls)[i * 4 + 2]? = some (.int .i64 ls[i].u) ∧ (scells ls)[i * 4 + 3]? = some ls[i].D
  | s :: r, 0, _ => by simp [scells_cons]
  | s :: r, i + 1, h => by
    have ih := scells_get r i (by simpa using h)
    rw [show (i + 1) * 4 = i * 4 + 1 + 1 + 1 + 1 by omega, scells_cons]
    simp only [List.getElem?_cons_succ, List.getElem_cons_succ]
    exact ih
theorem flatK_get (ls : List SV) (t : Nat) (ht : t < ls.length * 4) : (flatK enc4 4 ls.toArray)[t]? = (scells ls)[t]? := by
  have hs : (flatK enc4 4 ls.toArray).size = ls.length * 4 := by simp
  rw [Array.getElem?_eq_getElem (by omega), ← getElem!_pos _ t (by omega), get_flatK _ _ _ _ (by simpa using ht)]
  have hi : t / 4 < ls.length := by omega
  have e : t = t / 4 * 4 + t % 4 := by omega
  have hl : ls.toArray[t / 4]! = ls[t / 4] := by simp [hi]
  rw [hl]
  obtain ⟨g0, g1, g2, g3⟩ := scells_get ls (t / 4) hi
  have hm : t % 4 < 4 := Nat.mod_lt _ (by omega)
  generalize hj : t % 4 = j at hm e
  match j, hm with
  | 0, _ => rw [(congrArg (fun z => (scells ls)[z]?) e).trans g0]; simp [enc4]
  | 1, _ => rw [(congrArg (fun z => (scells ls)[z]?) e).trans g1]; simp [enc4]
  | 2, _ => rw [(congrArg (fun z => (scells ls)[z]?) e).trans g2]; simp [enc4]
  | 3, _ => rw [(congrArg (fun z => (scells ls)[z]?) e).trans g3]; simp [enc4]
theorem holdsK_own {w : World} {g : Nat} {cur : Array Value} {e : TypeId} {ls : List SV} (hb : w.heap[g]? = some (.cells cur e (0, 0))) (ht : cur.toList.take (ls.length * 4) = scells ls) : HoldsK enc4 4 w g 0 ls.toArray := by
  intro j hj
  have hj' : j < ls.length * 4 := by simpa using hj
  refine ⟨?_, by simp [World.frozen?, hb]⟩
  have h2 := flatK_get ls j hj'
  have h1 : (cur.toList.take (ls.length * 4))[j]? = (scells ls)[j]? := by rw [ht]
  rw [List.getElem?_take_of_lt hj', ← h2] at h1
  simp only [World.cell?, hb, Nat.zero_add, Option.isSome_none, Bool.false_eq_true, if_false]
  rw [← Array.getElem?_toList, h1, Array.getElem?_eq_getElem hj, id, getElem!_pos _ j hj]
theorem heap_sortedK {w : World} {g n : Nat} {os : Array Obj} {cur : Array Value} {e : TypeId} {fr : Nat × Nat} (d : Array SV) (hb : w.heap[g]? = some (.cells cur e fr)) :
    (sortWorldK enc4 4 w g 0 n d os).heap[g]? = some (.cells (putCells id 0 (flatK enc4 4 d) cur) e fr) := by
  have hg : g < w.heap.size := (Array.getElem?_eq_some_iff.1 hb).1
  unfold sortWorldK putRowK
  rw [heap_grow_old _ _ (by simpa using hg)]
  simp [putRow, mapBlock, Sort.ahead, Array.getElem?_modify, hb, onCells]
theorem grownBy_sortedK {w : World} {g n : Nat} {os : Array Obj} (d : Array SV) : w.grownBy (sortWorldK enc4 4 w g 0 n d os) (some g) := by
  unfold sortWorldK putRowK
  refine ⟨rfl, rfl, rfl, by simp, fun k hk hne => ?_⟩
  rw [heap_grow_old _ _ (by simpa using hk)]
  have : g ≠ k := fun e => hne (by rw [e])
  simp [putRow, mapBlock, Sort.ahead, Array.getElem?_modify, this]
theorem own_sortedK {w : World} {base g cap n m : Nat} {e : TypeId} {os : Array Obj} {cur : Array Value} {ts : List SV} (hl : ts.length = m) (hbase : base ≤ g) (hb : w.heap[g]? = some (.cells cur e (0, 0)))
    (h1 : m ≤ cap) (h2 : cap ≤ maxLen) (h3 : cur.size = cap * 4) : (sortWorldK enc4 4 w g 0 n ts.toArray os).ownsRow base e 4 (.slice (some ⟨g, 0, none⟩) m cap) m (scells ts) := by
  refine ⟨by rw [scells_length, hl], .inr ⟨g, cap, _, rfl, hbase, heap_sortedK _ hb, h1, h2, by simp [putCells, h3], ?_⟩⟩
  apply List.ext_getElem?
  intro j
  by_cases hj : j < m * 4
  · rw [List.getElem?_take_of_lt hj, Array.getElem?_toList, ← flatK_get ts j (by omega)]
    have hjj : j < (flatK enc4 4 ts.toArray).size := by simp; omega
    have hjs : j < ts.length * 4 := by omega
    simp only [putCells, Array.getElem?_mapIdx, Nat.zero_le, Nat.zero_add, true_and, Nat.sub_zero]
    rw [Array.getElem?_eq_getElem (show j < cur.size by omega)]
    simp only [Option.map_some, hjj, ↓reduceIte, id]
    rw [Array.getElem?_eq_getElem hjj, getElem!_pos _ j hjj]
  · rw [List.getElem?_take_eq_none (by omega), List.getElem?_eq_none (by rw [scells_length]; omega)]
theorem row_at {w : World} {base e m : Nat} {v : Value} {ls : List SV} (h : w.ownsRow base e 4 v m (scells ls)) (hm : ls.length = m) (h0 : 0 < m) :
    ∃ g cap cur, v = .slice (some ⟨g, 0, none⟩) m cap ∧ base ≤ g ∧ w.heap[g]? = some (.cells cur e (0, 0)) ∧ m ≤ cap ∧ cap ≤ maxLen ∧ cur.size = cap * 4 ∧ cur.toList.take (m * 4) = scells ls := by
  rcases h.2 with ⟨-, h1⟩ | h1
  · omega
  · exact h1

/-- rows of two types lie apart -/
theorem row_types {w : World} {b b' : Nat} {e e' : TypeId} {s s' n n' : Nat} {v v' : Value} {xs xs' : List Value} (h : w.ownsRow b e s v n xs) (h' : w.ownsRow b' e' s' v' n' xs') (hne : e ≠ e') : ∀ k, v.ownBlock = some k → v'.ownBlock ≠ some k := by
  intro k hk hk'
  rcases h.2 with ⟨rfl, _⟩ | ⟨g, cap, cur, rfl, _, hg, _⟩
  · simp [Value.ownBlock] at hk
  · rcases h'.2 with ⟨rfl, _⟩ | ⟨g', cap', cur', rfl, _, hg', _⟩
    · simp [Value.ownBlock] at hk'
    · simp [Value.ownBlock] at hk hk'
      subst hk; subst hk'
      rw [hg] at hg'
      injection hg' with hg'
      injection hg' with _ ht
      exact hne ht

theorem isAggS (w : World) : (isAgg 44).run Tryd.prog w = .ok true w := by kernel_rfl
theorem sizeOfS (w : World) : (Go.sizeOf 44).run Tryd.prog w = .ok 4 w := by kernel_rfl
def cfId (x y : SV) : Int := Lib.compareInt x.i y.i
theorem ltId (x y : SV) : ltOf cfId x y = decide (x.i < y.i) := by
  unfold ltOf cfId Lib.compareInt
  by_cases h1 : x.i < y.i
  · simp [h1]
  · by_cases h2 : y.i < x.i <;> simp [h1, h2]
theorem swoId : SWO (ltOf cfId) where
  irrefl x := by rw [ltId]; simp
  trans x y z h1 h2 := by rw [ltId] at *; simp at *; omega
  ntrans x y z h1 h2 := by rw [ltId] at *; simp at *; omega

set_option maxHeartbeats 1000000 in
theorem cmpId_any (x y : SV) (W : World) : Calls Tryd.prog 27 #[.agg (enc4 x).toArray, .agg (enc4 y).toArray] W fun e w' => e = .returned (.int .i64 (cfId x y)) ∧ ∃ q os', w' = grow (W.drewN q) os' := by
  have hcon := fun W' => Tryd.cmp_Compare_int x.i y.i W'
  simp only [enc4, cfId, SV.D]
  generalize Lib.compareInt x.i y.i = r at hcon ⊢
  go_enter Tryd.func27, Tryd.ntmps27
  go_wp2_with (go_at_call 23; refine (hcon _).mono ?_; rintro e w' ⟨rfl, rfl⟩)
  go_ret
  exact ⟨rfl, 0, _, by rw [alloc_eq_grow, alloc_eq_grow, grow_grow]; rfl⟩

set_option maxHeartbeats 1000000 in
theorem sort_none (A : Option Addr) (c : Nat) (fv : Value) (w : World) : Calls Tryd.prog 26 #[.slice A 0 c, fv] w fun e w' => e = .returned (.tuple #[]) ∧ w' = w := by
  go_enter Tryd.func26, Tryd.ntmps26
  go_wp2_with (first
    | (go_at_call 37; refine (Tryd.bits_Len 0 _ (by omega) (by omega)).mono ?_; rintro e w' ⟨rfl, rfl⟩)
    | go_in)
  refine wp_loop_rounds 1 ?_
  rw [rounds_succ]
  go_wp2_with go_in
  refine wp_loop_rounds 1 ?_
  rw [rounds_succ]
  go_wp2_with go_in
  go_end0
  go_wp2_with go_in
  refine bodyPost_ret (results_none rfl _ _ _) rfl ?_
  go_wp2_with go_in
  go_end0
  exact ⟨rfl, rfl⟩

theorem sortedIn_pairwise {d : Array SV} (h : SortedIn (ltOf cfId) 0 d.size d) : d.toList.Pairwise fun a b => a.i ≤ b.i := by
  rw [List.pairwise_iff_getElem]
  intro i j hi hj hij
  have := h i j (Nat.zero_le _) hij (by simpa using hj)
  rw [ltId, getElem!_pos d j (by simpa using hj), getElem!_pos d i (by simpa using hi)] at this
  simp only [decide_eq_false_iff_not, Array.getElem_toList] at this ⊢
  omega

set_option maxHeartbeats 1000000 in
/-- the sort, on a row that is owned -/
theorem sortId_any (base m : Nat) (v : Value) (ls : List SV) (w : World) (h : w.ownsRow base 44 4 v m (scells ls)) (hm : ls.length = m) (hn : m ≤ 1000000) :
    Calls Tryd.prog 26 #[v, .func (.func 27) #[] #[]] w fun e w' => e = .returned (.tuple #[]) ∧ ∃ ts, ts.Perm ls ∧ (ts.Pairwise fun a b => a.i ≤ b.i) ∧ w'.ownsRow base 44 4 v m (scells ts) ∧ w.grownBy w' v.ownBlock := by
  by_cases h0 : 0 < m
  · obtain ⟨g, cap, cur, rfl, hg, hb, h1, h2, h3, h4⟩ := row_at h hm h0
    have eg : ∀ args w, (callFunc 27 args).run Tryd.prog w = .ok (.enter 27 args) w := enters_of Tryd.func27 (by kernel_rfl) rfl
    have hsz : ls.toArray.size = m := by simpa using hm
    have hcon := AnyQ.slices_SortFunc Tryd.sortS 4 isAggS sizeOfS enc4 enc4_len enc4_one cfId swoId 27 #[] g 0 cap ls.toArray w eg (fun _ _ _ _ x y => cmpId_any x y _) (holdsK_own hb (by rw [hm]; exact h4)) (Array.getElem?_eq_some_iff.1 hb).1 (by omega)
    rw [hsz] at hcon
    refine hcon.mono ?_
    rintro e w' ⟨rfl, d', n, os, hp, hs, rfl⟩
    obtain ⟨hp1, -, hp2⟩ := hp
    have hd : d'.size = m := by rw [hp1, hsz]
    have hp3 : d'.toList.Perm ls := by
      have e1 : d'.extract 0 m = d' := by rw [← hd]; simp
      have e2 : ls.toArray.extract 0 m = ls.toArray := by rw [← hsz]; simp
      rw [e1, e2] at hp2
      simpa using hp2
    refine ⟨rfl, d'.toList, hp3, sortedIn_pairwise (by rw [hd]; exact hs), ?_, ?_⟩
    · have := own_sortedK (w := w) (n := n) (os := os) (ts := d'.toList) (m := m) (by simpa using hd) hg hb h1 h2 h3
      simpa using this
    · have := grownBy_sortedK (w := w) (g := g) (n := n) (os := os) d'
      simpa [Value.ownBlock] using this
  · obtain rfl : m = 0 := by omega
    obtain rfl : ls = [] := List.eq_nil_of_length_eq_zero hm
    obtain ⟨A, c, rfl, -⟩ := own_shape h
    refine (sort_none A c _ w).mono ?_
    rintro e w' ⟨rfl, rfl⟩
    exact ⟨rfl, [], List.Perm.refl _, List.Pairwise.nil, h, ⟨rfl, rfl, rfl, Nat.le_refl _, fun _ _ _ => rfl⟩⟩
end Go.Proofs.YtbdokphemdkhmaaDoor
