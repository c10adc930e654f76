/- muntinlaw01.Lent: what it makes. -/
import Derived.Test.YtkjpfjgaabbggaaDoorBase
import Derived.Lib.Strings
import Derived.Laws.AppendOwnNone
set_option linter.unusedVariables false
set_option linter.unusedSimpArgs false
namespace Go.Proofs.YtkjpfjgaabbggaaDoor
open Go.RowKit

theorem info_u8 : (Tryd.prog.info? 5).map (fun i => (i.zero, i.size, i.bytes)) = some (some (.int .u8 0), 1, 1) := by kernel_rfl
theorem size_u8 : (Tryd.prog.info? 5).map (·.size) = some 1 := by kernel_rfl

theorem run_make_u8 (l c : Nat) (hlc : l ≤ c) (hb : c ≤ 281474976710656) (L C : Int) (hL : L = l) (hC : C = c) (u : World) : (Instr.makeSlice 42 (.int .i64 L) (.int .i64 C)).run Tryd.prog u =
      .ok (.slice (some ⟨u.heap.size, 0, none⟩) l c) (u.alloc (.cells (mem (zs c (.int .u8 0))) 5)) := by
  obtain ⟨i0, hi, hz0, hz1, hz2⟩ := info_parts info_u8
  subst hL hC
  have h := run_make (P := Tryd.prog) u 42 5 i0 (.int .u8 0) Tryd.underlying42 hi hz0 .i64 .i64 (l : Int) (c : Int) (by omega) (by omega) (by rw [hz2]; omega) (by omega)
  simpa [hz1, Value.cells, madeCells_one] using h

set_option maxHeartbeats 400000 in
theorem lent_any (A : Option Addr) (c : Nat) (bs : List UInt8) (w : World) (hn : bs.length ≤ 140737488351232) (hr : RB w A bs) :
    Calls Tryd.prog 39 #[.slice A bs.length c] w fun e w' => e = .returned (.slice (some ⟨w.heap.size, 0, none⟩) bs.length (bs.length+1)) ∧ w' = w.alloc (.cells (mem (bv bs ++ [Value.int .u8 77])) 5) := by
  have hmk := run_make_u8 bs.length (bs.length + 1) (by omega) (by omega) (bs.length : Int) ((bs.length : Int) + 1) rfl (by omega)
  have hcp := copy_made (P := Tryd.prog) w 42 42 3 5 Tryd.underlying42 size_u8 A bs c bs.length (bs.length + 1) (zs (bs.length+1) (.int .u8 0)) hr (Nat.le_refl _) (by simp)
  have e3 : (zs (bs.length+1) (.int .u8 0)).drop bs.length = [Value.int .u8 0] := by simp [zs]
  rw [e3] at hcp
  clear e3
  have e4 : (bv bs ++ [Value.int .u8 0]).set bs.length (.int .u8 77) = bv bs ++ [Value.int .u8 77] := by
    rw [List.set_append_right _ _ (by simp)]; simp
  go_enter Tryd.func39, Tryd.ntmps39
  go_wp2_with fail
  go_ret
  exact ⟨rfl, rfl⟩

/-- '[]byte' of a constant string -/
@[go_sem] theorem run_conv_const (w : World) (C : Array Value) (n c : Nat) : (convert 42 42 (.slice (some ⟨w.heap.size, 0, none⟩) n c)).run Tryd.prog (w.alloc (.cells C 5)) = .ok (.slice (some ⟨w.heap.size, 0, none⟩) n c) (w.alloc (.cells C 5 (C.size, C.size + 1))) :=
  Lib.run_convert_bytes_const (P := Tryd.prog) w 42 5 C n c Tryd.underlying42 Tryd.underlying5

/-- an error by its number, 0: none -/
def errV (k : Nat) : Value := if k = 0 then .nilIface else .iface 62 (.int .i64 k)
theorem errV_zero : errV 0 = .nilIface := rfl
theorem errV_pos (k : Nat) (h : k ≠ 0) : errV k = .iface 62 (.int .i64 k) := by simp [errV, h]

/-- 'string(b)' of whatever reads as bytes -/
def str (bs : List UInt8) : ByteArray := ⟨bs.toArray⟩
theorem str_toList (l : List UInt8) : (str l).toList = l := by rw [Lib.toList_data]; simp [str]
@[go_sem, simp] theorem str_less (a b : List UInt8) : Op.bytesLess (str a).toList (str b).toList = Op.bytesLess a b := by rw [str_toList, str_toList]
@[go_sem, simp] theorem str_beq (a b : List UInt8) : ((str a).toList == (str b).toList) = (a == b) := by
  have h : ∀ l : List UInt8, (str l).toList = l := fun l => by
    rw [Lib.toList_data]; simp [str]
  rw [h, h]
@[simp] theorem str_size (a : List UInt8) : (str a).size = a.length := by simp [str, ByteArray.size]
theorem strOfNums_bytes (bs : List UInt8) : strOfNums (bs.map fun b => (b.toNat : Int)) = str bs := by
  simp [strOfNums, str, List.map_map, Function.comp_def]
theorem run_str (w : World) (A : Option Addr) (bs : List UInt8) (c : Nat) (hr : RB w A bs) (dst : TypeId) (hd : Tryd.prog.underlying dst = some .string) :
    (convert 42 dst (.slice A bs.length c)).run Tryd.prog w = .ok (.string (str bs)) w := by
  by_cases h0 : bs.length = 0
  · obtain rfl : bs = [] := List.eq_nil_of_length_eq_zero h0
    cases A with
    | none => exact run_convert_bytes_nil w 42 5 Tryd.underlying42 Tryd.underlying5 0 c dst hd
    | some a =>
      have hl : (loadCells a 0).run Tryd.prog w = .ok #[] w := by simpa using run_loadCells_list (P := Tryd.prog) w a [] (by simp)
      have hl2 : (loadCells a 0).run Tryd.prog w = .ok (([] : List Int).map (Value.int .u8)).toArray w := by simpa using hl
      rw [show ([] : List UInt8).length = 0 from rfl, run_convert_bytes_string w 42 dst 5 _ 0 c Tryd.underlying42 Tryd.underlying5 hd, run_bytesToString w a 0 c [] hl2]
      rfl
  · obtain ⟨b, o, rfl, _, hc⟩ := hr.addr (by omega)
    have := run_convert_bytes_arg (P := Tryd.prog) w 42 5 Tryd.underlying42 Tryd.underlying5 b o bs.length c (bs.map fun b => (b.toNat : Int)) (by simp)
      (fun i hi => by rw [hc i hi]; simp [List.getD, hi]) dst hd
    rw [strOfNums_bytes] at this
    exact this

/-- 'append' of bytes to bytes of the call's own -/
theorem wpList_append_bytes {ops : Array Oper} {rest : List Oper} {o : Oper} {a : Act} {Q : Exit → Act → World → Prop} {w : World} (hgd : o.guard = none) (s x : Operand)
    (ho : o.op = .call { callee := .builtin .append, args := #[s, x], argTypes := #[42, 42] })
    (base : Nat) (v : Value) (xs bs : List UInt8) (n m c : Nat) (A : Option Addr) (hs : a.eval s = v) (hx : a.eval x = .slice A m c)
    (hown : w.ownsRow base 5 1 v n (bv xs)) (hr : RB w A bs) (hm : bs.length = m) (hA : A = none → c = 0)
    (hn : xs.length = n) (hlen : n + m ≤ 140737488355328) (hbase : base ≤ w.heap.size)
    (h : ∀ v' w', w'.ownsRow base 5 1 v' (n + m) (bv (xs ++ bs)) → w.grownBy w' v.ownBlock → wpList Tryd.prog ops Q rest (a.put o.dst v') w') : wpList Tryd.prog ops Q (o :: rest) a w := by
  obtain ⟨i0, hi, hz0, hz1, hz2⟩ := info_parts info_u8
  subst hm
  cases A with
  | none =>
    obtain rfl := hA rfl
    have h0 : bs = [] := by
      cases bs with
      | nil => rfl
      | cons b bs => obtain ⟨a, ha, _⟩ := hr 0 (by simp); cases ha
    subst h0
    refine wpList_append_own_none hgd s x 42 ho base 5 i0 1 Tryd.underlying42 hi v n (bv xs) hs hown hx (h v w ?_ ⟨rfl, rfl, rfl, Nat.le_refl _, fun _ _ _ => rfl⟩)
    simpa using hown
  | some ad =>
    refine wpList_append_own w hgd s x 42 ho base 5 i0 (.int .u8 0) 1 1 Tryd.underlying42 hi hz0 hz1 hz2 rfl (by decide) v n (bv xs) hs hown ad bs.length c (bv bs) hx (by simp) ?_ (bv_one bs) (by unfold maxLen; omega) (by omega) hbase ?_
    · intro j u hj
      have hj' : j < bs.length := by have := (List.getElem?_eq_some_iff.1 hj).1; simpa using this
      obtain ⟨a', ha', hcell⟩ := hr j hj'
      obtain rfl := Option.some.inj ha'
      rw [bv_get _ _ hj'] at hj
      rw [hcell]; exact hj
    · intro v' w' h1 h2 _
      rw [← bv_append] at h1
      exact h v' w' h1 h2

set_option maxHeartbeats 400000 in
theorem kept_any (B A : Option Addr) (cb c : Nat) (bs : List UInt8) (w : World) (g : Nat) (hB : B = some ⟨g, 0, none⟩) (hb : RB w B bs) (hr : RB w A bs) (hcb : bs.length + 1 ≤ cb) (hn : bs.length ≤ 140737488351232)
    (h77 : w.cell? ⟨g, bs.length, none⟩ = some (.int .u8 77)) :
    Calls Tryd.prog 42 #[.slice B bs.length cb, .slice A bs.length c] w fun e w' => e = .returned (.bool true) ∧ w' = w := by
  have h1 := run_str w B bs cb hb 9 Tryd.underlying9
  have h2 := run_str w A bs c hr 9 Tryd.underlying9
  subst hB
  go_enter Tryd.func42, Tryd.ntmps42
  go_wp2_with fail
  go_ret
  exact ⟨rfl, rfl⟩
end Go.Proofs.YtkjpfjgaabbggaaDoor
