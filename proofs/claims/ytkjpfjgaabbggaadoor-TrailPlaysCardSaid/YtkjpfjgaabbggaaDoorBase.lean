/- Words of this seat's proofs: bytes as values, a row's content, what a slice reads as; laws on worlds; nothing of the program stands here. -/
import Derived.Test.YtkjpfjgaabbggaaDoorProg
import Derived.WalkKit
import Derived.KernelRfl
import Derived.Lib.Hide
import Derived.Laws.CopyOwn
import Derived.Laws.AppendOwn
import Derived.Deep.Draws
import Derived.Lib.SlBytesConst
set_option linter.unusedVariables false
set_option linter.unusedSimpArgs false
namespace Go.Proofs.YtkjpfjgaabbggaaDoor
open Go.RowKit

/-- bytes as values -/
def bv (bs : List UInt8) : List Value := bs.map fun b => .int .u8 b.toNat
@[simp] theorem bv_length (bs : List UInt8) : (bv bs).length = bs.length := by simp [bv]
theorem bv_append (a b : List UInt8) : bv (a ++ b) = bv a ++ bv b := by simp [bv]
theorem bv_one : ∀ (bs : List UInt8), ∀ v ∈ bv bs, v.oneCell' = true := by
  intro bs v hv
  simp only [bv, List.mem_map] at hv
  obtain ⟨x, _, rfl⟩ := hv
  rfl
theorem bv_get (bs : List UInt8) (i : Nat) (h : i < bs.length) : (bv bs)[i]? = some (.int .u8 bs[i].toNat) := by simp [bv, h]

/-- a row's content, closed to the walk's simp -/
def mem (cs : List Value) : Array Value := cs.toArray
@[go_sem, simp] theorem mem_size (cs : List Value) : (mem cs).size = cs.length := by simp [mem]
theorem mem_get (cs : List Value) (i : Nat) (h : i < cs.length) : (mem cs)[i]'(by simpa [mem] using h) = cs[i] := by simp [mem]
@[go_sem, simp] theorem mem_get? (cs : List Value) (i : Nat) : (mem cs)[i]? = cs[i]? := by simp [mem]
@[go_sem, simp] theorem mem_set (cs : List Value) (i : Nat) (v : Value) : (mem cs).setIfInBounds i v = mem (cs.set i v) := by simp [mem]
@[simp] theorem mem_toList (cs : List Value) : (mem cs).toList = cs := by simp [mem]
/-- n times one value -/
def zs (n : Nat) (v : Value) : List Value := List.replicate n v
@[simp] theorem zs_length (n : Nat) (v : Value) : (zs n v).length = n := by simp [zs]
theorem madeCells_one (n : Nat) (v : Value) : madeCells #[v] n = mem (zs n v) := by
  apply Array.ext <;> simp [madeCells, Nat.mod_one, mem, zs]

/-- A slice's address reads as bytes. -/
def RB (w : World) (A : Option Addr) (bs : List UInt8) : Prop :=
  ∀ i (h : i < bs.length), ∃ a, A = some a ∧ w.cell? (a.add i) = some (.int .u8 bs[i].toNat)

theorem RB.nil (w : World) (A : Option Addr) : RB w A [] := fun i h => absurd h (by simp)
theorem RB.addr {w : World} {A : Option Addr} {bs : List UInt8} (h : RB w A bs) (h0 : 0 < bs.length) :
    ∃ b o, A = some ⟨b, o, none⟩ ∧ b < w.heap.size ∧ ∀ i (hi : i < bs.length), w.cell? ⟨b, o + i, none⟩ = some (.int .u8 bs[i].toNat) := by
  obtain ⟨⟨b, o, s⟩, rfl, hc⟩ := h 0 h0
  have hs : s = none := by
    cases s with
    | none => rfl
    | some x => simp [World.cell?, Addr.add] at hc; split at hc <;> simp_all
  subst hs
  refine ⟨b, o, rfl, ?_, fun i hi => ?_⟩
  · have := World.block_lt_of_cell? _ _ hc
    simpa [Addr.add] using this
  · obtain ⟨a, ha, hc⟩ := h i hi
    obtain rfl := Option.some.inj ha
    rw [Addr.add_lit] at hc
    exact hc
theorem RB.mk' {w : World} {b o : Nat} {bs : List UInt8} (h : ∀ i (hi : i < bs.length), w.cell? ⟨b, o + i, none⟩ = some (.int .u8 bs[i].toNat)) : RB w (some ⟨b, o, none⟩) bs :=
  fun i hi => ⟨_, rfl, by rw [Addr.add_lit]; exact h i hi⟩
theorem RB.lt {w : World} {A : Option Addr} {bs : List UInt8} (h : RB w A bs) {a : Addr} (ha : A = some a) (h0 : 0 < bs.length) : a.block < w.heap.size := by
  obtain ⟨b, o, e, hlt, _⟩ := h.addr h0
  rw [ha] at e
  obtain rfl := Option.some.inj e
  exact hlt
/-- what was there is there, if its block stands -/
theorem RB.step {w w' : World} {A : Option Addr} {bs : List UInt8} (h : RB w A bs) (hb : ∀ a, A = some a → 0 < bs.length → w'.heap[a.block]? = w.heap[a.block]?) : RB w' A bs := by
  intro i hi
  obtain ⟨a, ha, hc⟩ := h i hi
  refine ⟨a, ha, ?_⟩
  rw [World.cell?_of_block (w := w) (by rw [show (a.add i).block = a.block by unfold Addr.add; split <;> rfl]; exact hb a ha (by omega))]
  exact hc
theorem RB.below {w w' : World} {A : Option Addr} {bs : List UInt8} (h : RB w A bs) (hb : Below w.heap.size w w') : RB w' A bs :=
  h.step fun a ha h0 => hb.block _ (h.lt ha h0)
theorem RB.drewN {w : World} {A : Option Addr} {bs : List UInt8} (h : RB w A bs) (m : Nat) : RB (w.drewN m) A bs := h.step fun _ _ _ => rfl
theorem RB.alloc {w : World} {A : Option Addr} {bs : List UInt8} (h : RB w A bs) (o : Obj) : RB (w.alloc o) A bs :=
  h.below ((Below.refl _ _).alloc (Nat.le_refl _) o)
/-- a part of what is read -/
theorem RB.cut {w : World} {A : Option Addr} {bs : List UInt8} (h : RB w A bs) (l m : Nat) (hm : l ≤ m) (hl : m ≤ bs.length) (c : Nat) (hc : c = l → m = l) :
    RB w (if c = l then A else A.map (·.add (l * 1))) ((bs.drop l).take (m - l)) := by
  intro i hi
  have hi' : i < m - l := by simp at hi; omega
  obtain ⟨a, ha, hcell⟩ := h (l + i) (by omega)
  subst ha
  have hne : ¬ c = l := fun e => by have := hc e; omega
  refine ⟨a.add l, by simp [hne], ?_⟩
  have e : (a.add l).add i = a.add (l + i) := by
    unfold Addr.add
    by_cases h1 : l = 0
    · simp [h1]
    · by_cases h2 : i = 0
      · simp [h1, h2]
      · simp [h1, h2, Nat.add_assoc]
  rw [e, hcell]
  simp

theorem RB.take {w : World} {A : Option Addr} {bs : List UInt8} (h : RB w A bs) (m : Nat) : RB w A (bs.take m) := by
  intro i hi
  obtain ⟨a, ha, hc⟩ := h i (by simp at hi; omega)
  exact ⟨a, ha, by rw [hc]; simp⟩
theorem RB.drop {w : World} {g o : Nat} {bs : List UInt8} (h : RB w (some ⟨g, o, none⟩) bs) (k : Nat) : RB w (some ⟨g, o + k, none⟩) (bs.drop k) := by
  refine RB.mk' fun i hi => ?_
  obtain ⟨a, ha, hc⟩ := h (k + i) (by simp at hi; omega)
  obtain rfl := Option.some.inj ha
  rw [Addr.add_lit] at hc
  rw [Nat.add_assoc, hc]
  simp
/-- a new block of one cell -/
theorem one_new (w : World) (v : Value) (t : TypeId) : ∀ (j : Nat) (u : Value), [v][j]? = some u → (w.alloc (.cells #[v] t)).cell? ((⟨w.heap.size, 0, none⟩ : Addr).add j) = some u := by
  intro j u hj
  have h0 : j = 0 := by
    have := (List.getElem?_eq_some_iff.1 hj).1
    simp at this
    omega
  subst h0
  simp at hj
  subst hj
  rw [Addr.add_lit]
  simp only [World.cell?, heap_alloc_new, Option.isSome_none, Bool.false_eq_true, ↓reduceIte]
  rfl
/-- 'append' of one element of one cell to a row of the call's own -/
theorem wpList_append_one {P : Program} {ops : Array Oper} {rest : List Oper} {o : Oper} {a : Act} {Q : Exit → Act → World → Prop} (w : World) (hgd : o.guard = none) (s x : Operand) (t : TypeId)
    (ho : o.op = .call { callee := .builtin .append, args := #[s, x], argTypes := #[t, t] })
    (base : Nat) (e : TypeId) (z : Value) (bytes : Nat) (ht : P.underlying t = some (.slice e)) (hinfo : (P.info? e).map (fun i => (i.zero, i.size, i.bytes)) = some (some z, 1, bytes)) (hzs : z.cells.size = 1)
    (v : Value) (n : Nat) (xs : List Value) (hs : a.eval s = v) (hown : w.ownsRow base e 1 v n xs) (u : Value) (hx : a.eval x = .slice (some ⟨w.heap.size, 0, none⟩) 1 1) (hu : u.oneCell' = true)
    (h63 : n + 1 ≤ maxLen) (hbytes : (n + 1) * bytes ≤ 140737488355328) (hbase : base ≤ w.heap.size)
    (h : ∀ v' w', w'.ownsRow base e 1 v' (n + 1) (xs ++ [u]) → (w.alloc (.cells #[u] e)).grownBy w' v.ownBlock → wpList P ops Q rest (a.put o.dst v') w') : wpList P ops Q (o :: rest) a (w.alloc (.cells #[u] e)) := by
  obtain ⟨i0, hi, hz0, hz1, hz2⟩ := info_parts hinfo
  exact wpList_append_own _ hgd s x t ho base e i0 z 1 bytes ht hi hz0 hz1 hz2 hzs (by decide) v n xs hs (hown.alloc _) ⟨w.heap.size, 0, none⟩ 1 1 [u] hx rfl (one_new w u e)
    (fun y hy => by simp at hy; subst hy; exact hu) h63 hbytes (by simp; omega) (fun v' w' h1 h2 _ => h v' w' h1 h2)
theorem zs_drop (n k : Nat) (v : Value) : (zs n v).drop k = zs (n - k) v := by simp [zs]
theorem splice_behind (X Y cs : List Value) (off : Nat) (h : X.length = off) : splice (X ++ Y) off cs = X ++ cs ++ Y.drop cs.length := by
  subst h
  simp only [splice, List.take_left, List.append_assoc]
  rw [List.drop_append]
  simp
theorem splice_head (Y cs : List Value) : splice Y 0 cs = cs ++ Y.drop cs.length := by simp [splice]
theorem heap_size_alloc (w : World) (o : Obj) : (w.alloc o).heap.size = w.heap.size + 1 := by simp

theorem alloc_setRow (w : World) (c c' : Array Value) (t : TypeId) : (w.alloc (.cells c t)).setRow w.heap.size c' = w.alloc (.cells c' t) := by
  unfold World.setRow World.alloc
  simp only
  congr 1
  apply Array.ext
  · simp
  · intro k h1 h2
    simp only [Array.getElem_modify, Array.getElem_push]
    have h2' : k < w.heap.size + 1 := by simpa using h2
    by_cases hk : k < w.heap.size
    · have hne : ¬ w.heap.size = k := by omega
      simp [hk, hne]
    · have hk' : w.heap.size = k := by omega
      simp [hk']

/-- 'copy' of bytes into a row that was just made -/
theorem copy_made_at {P : Program} (w : World) (dT sT ty elem : TypeId) (hu : P.underlying dT = some (.slice elem)) (hs : (P.info? elem).map (·.size) = some 1)
    (A : Option Addr) (bs : List UInt8) (c dLen dCap off : Nat) (cur : List Value) (hr : RB w A bs) (hd : bs.length ≤ dLen) (hc : off + bs.length ≤ cur.length) :
    (Builtin.copy_ #[dT, sT] ty #[.slice (some ⟨w.heap.size, off, none⟩) dLen dCap, .slice A bs.length c]).run P (w.alloc (.cells (mem cur) elem))
      = .ok (goInt bs.length) (w.alloc (.cells (mem (splice cur off (bv bs))) elem)) := by
  by_cases h0 : bs.length = 0
  · obtain rfl : bs = [] := List.eq_nil_of_length_eq_zero h0
    have := run_copy_none (P := P) (w.alloc (.cells (mem cur) elem)) dT sT ty elem (some ⟨w.heap.size, off, none⟩) A dLen dCap 0 c hu hs (by simp)
    simpa [bv, splice] using this
  · obtain ⟨a, rfl, hc0⟩ := hr 0 (by omega)
    have := run_copy_row (P := P) (w.alloc (.cells (mem cur) elem)) dT sT ty elem w.heap.size off dLen dCap a bs.length c (mem cur) elem (bv bs) hu hs
      (heap_alloc_new w _) (by simp [Nat.min_def]; omega) ?_ (by simpa using hc) (bv_one bs)
    · rw [alloc_setRow] at this
      simpa [mem, splice] using this
    · intro j v hj
      have hj' : j < bs.length := by have := (List.getElem?_eq_some_iff.1 hj).1; simpa using this
      obtain ⟨a', ha', hcell⟩ := hr j hj'
      obtain rfl := Option.some.inj ha'
      have hv : v = .int .u8 bs[j].toNat := by simpa [bv, hj'] using hj.symm
      subst hv
      rw [World.cell?_alloc_lt]
      · exact hcell
      · exact World.block_lt_of_cell? _ _ hcell
theorem copy_made {P : Program} (w : World) (dT sT ty elem : TypeId) (hu : P.underlying dT = some (.slice elem)) (hs : (P.info? elem).map (·.size) = some 1)
    (A : Option Addr) (bs : List UInt8) (c dLen dCap : Nat) (cur : List Value) (hr : RB w A bs) (hd : bs.length ≤ dLen) (hc : bs.length ≤ cur.length) :
    (Builtin.copy_ #[dT, sT] ty #[.slice (some ⟨w.heap.size, 0, none⟩) dLen dCap, .slice A bs.length c]).run P (w.alloc (.cells (mem cur) elem))
      = .ok (goInt bs.length) (w.alloc (.cells (mem (bv bs ++ cur.drop bs.length)) elem)) := by
  have := copy_made_at (P := P) w dT sT ty elem hu hs A bs c dLen dCap 0 cur hr hd (by omega)
  simpa [splice] using this

/-- a new row of bytes, with more behind them -/
theorem RB.new (w : World) (bs : List UInt8) (more : List Value) (t : TypeId) : RB (w.alloc (.cells (mem (bv bs ++ more)) t)) (some ⟨w.heap.size, 0, none⟩) bs :=
  RB.mk' fun i hi => by
    simp only [World.cell?, heap_alloc_new, Option.isSome_none, Bool.false_eq_true, ↓reduceIte, mem_get?, Nat.zero_add]
    rw [List.getElem?_append_left (by simpa using hi), bv_get _ _ hi]
theorem RB.new0 (w : World) (bs : List UInt8) (t : TypeId) : RB (w.alloc (.cells (mem (bv bs)) t)) (some ⟨w.heap.size, 0, none⟩) bs := by
  have := RB.new w bs [] t
  simpa using this
theorem RB.block {w : World} {g : Nat} {cs : Array Value} {t : TypeId} {fr : Nat × Nat} {bs : List UInt8} (h : w.heap[g]? = some (.cells cs t fr)) (hc : cs.toList.take bs.length = bv bs) : RB w (some ⟨g, 0, none⟩) bs :=
  RB.mk' fun i hi => by
    simp only [World.cell?, h, Option.isSome_none, Bool.false_eq_true, ↓reduceIte, Nat.zero_add]
    have := congrArg (fun l => l[i]?) hc
    simp only [List.getElem?_take, hi, ↓reduceIte, bv_get _ _ hi] at this
    simpa using this
theorem cell_new (w : World) (cs : List Value) (t : TypeId) (i : Nat) (v : Value) (h : cs[i]? = some v) : (w.alloc (.cells (mem cs) t)).cell? ⟨w.heap.size, i, none⟩ = some v := by
  simp only [World.cell?, heap_alloc_new, Option.isSome_none, Bool.false_eq_true, ↓reduceIte, mem_get?, h]
theorem below_cell {w w' : World} (h : Below w.heap.size w w') {a : Addr} {v : Value} (hc : w.cell? a = some v) : w'.cell? a = some v :=
  (h.cell (World.block_lt_of_cell? w a hc)).trans hc
theorem below_then {B : Nat} {w0 w1 w2 : World} (h : Below B w0 w1) (hB : B ≤ w1.heap.size) (k : Below w1.heap.size w1 w2) : Below B w0 w2 := h.trans (k.mono hB)
theorem below_alloc (w : World) (o : Obj) : Below w.heap.size w (w.alloc o) := (Below.refl _ _).alloc (Nat.le_refl _) o

/-- the shape of what is owned -/
theorem own_shape {w : World} {base : Nat} {e : TypeId} {size n : Nat} {v : Value} {xs : List Value} (h : w.ownsRow base e size v n xs) : ∃ A c, v = .slice A n c ∧ n ≤ c ∧ (A = none → c = 0) := by
  rcases h.2 with ⟨rfl, rfl⟩ | ⟨g, cap, cur, rfl, _, _, h1, _⟩
  · exact ⟨none, 0, rfl, Nat.le_refl _, fun _ => rfl⟩
  · exact ⟨_, cap, rfl, h1, fun h => by cases h⟩
/-- what is owned reads as its bytes -/
theorem RB.own {w : World} {base : Nat} {e : TypeId} {n c : Nat} {A : Option Addr} {bs : List UInt8} (h : w.ownsRow base e 1 (.slice A n c) n (bv bs)) : RB w A bs := by
  rcases h.2 with ⟨h1, rfl⟩ | ⟨g, cap, cur, h1, _, hg, _, _, _, ht⟩
  · have h0 := h.1
    simp at h0
    subst h0
    exact RB.nil _ _
  · cases h1
    have hl := h.1
    simp at hl
    refine RB.block hg ?_
    rw [hl]
    simpa using ht
theorem cell_of_mem {w : World} {g : Nat} {cs : List Value} {t : TypeId} {fr : Nat × Nat} (hg : w.heap[g]? = some (.cells (mem cs) t fr)) (i : Nat) : w.cell? ⟨g, i, none⟩ = cs[i]? := by
  simp only [World.cell?, hg, Option.isSome_none, Bool.false_eq_true, ↓reduceIte, mem_get?]
theorem unfrozen_of_mem {w : World} {g : Nat} {cs : Array Value} {t : TypeId} (hg : w.heap[g]? = some (.cells cs t (0, 0))) (i : Nat) : w.frozen? ⟨g, i, none⟩ = false := by
  simp [World.frozen?, hg]
theorem setCell_mem {w : World} {g : Nat} {cs : List Value} {t : TypeId} {fr : Nat × Nat} (hg : w.heap[g]? = some (.cells (mem cs) t fr)) (i : Nat) (v : Value) : w.setCell ⟨g, i, none⟩ v = w.setRow g (mem (cs.set i v)) := by
  rw [setCell_eq_setRow w g i (mem cs) t fr v hg, mem_set]
theorem row_heap {w : World} {g : Nat} {cs : List Value} {t : TypeId} {fr : Nat × Nat} (hg : w.heap[g]? = some (.cells (mem cs) t fr)) (cs' : List Value) : (w.setRow g (mem cs')).heap[g]? = some (.cells (mem cs') t fr) := setRow_heap w g _ _ t fr hg
theorem splice_four (cs : List Value) (o : Nat) (a b c d : Value) (h : o + 4 ≤ cs.length) : splice cs o [a, b, c, d] = (((cs.set o a).set (o + 1) b).set (o + 2) c).set (o + 3) d := by
  apply List.ext_getElem?
  intro j
  simp only [splice, List.length_cons, List.length_nil, List.getElem?_set, List.length_set]
  by_cases h1 : j < o
  · rw [List.getElem?_append_left (by simp; omega), List.getElem?_take]
    simp [h1, show ¬ o = j by omega, show ¬ o + 1 = j by omega, show ¬ o + 2 = j by omega, show ¬ o + 3 = j by omega]
  · rw [List.getElem?_append_right (by simp; omega)]
    have hl : (cs.take o).length = o := by simp; omega
    rw [hl]
    rcases (show j = o ∨ j = o + 1 ∨ j = o + 2 ∨ j = o + 3 ∨ o + 4 ≤ j by omega) with rfl | rfl | rfl | rfl | h5
    · simp [show j < cs.length by omega]
    · simp [show o + 1 < cs.length by omega]
    · simp [show o + 2 < cs.length by omega]
    · simp [show o + 3 < cs.length by omega]
    · rw [List.getElem?_append_right (by simp; omega)]
      simp [show ¬ o = j by omega, show ¬ o + 1 = j by omega, show ¬ o + 2 = j by omega, show ¬ o + 3 = j by omega]
      congr 1
      omega
end Go.Proofs.YtkjpfjgaabbggaaDoor
