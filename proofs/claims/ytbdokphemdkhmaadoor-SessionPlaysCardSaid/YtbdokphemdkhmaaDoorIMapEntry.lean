/- Maps keyed by int: a store in two steps, the entry and what stands there. -/
import Derived.Test.YtbdokphemdkhmaaDoorIMap
import Derived.WideKeyEntry
set_option linter.unusedVariables false
set_option linter.unusedSimpArgs false
namespace Go.Proofs.YtbdokphemdkhmaaDoor
open Go.RowKit Go.ChangeMaps

theorem int_two {H : Type} {w : World} {t e : TypeId} {R : Value → Option (DataW H × List MemPlace)} {b : Nat} {es : Array MapEntry} {clock : Nat} (ht : Tryd.prog.underlying t = some (.map 3 e)) {z : Value} (hz : ∀ u : World, (zeroValue e).run Tryd.prog u = .ok z u)
    (hb : w.heap[b]? = some (.map es clock)) (F : WideElems.Fit Tryd.prog 3 R es clock) {key : Value} {kl : Lit} (hkey : keyOf Tryd.prog 3 key = some kl) :
    ∃ (v0 : Value) (st : Nat) (es1 : Array MapEntry) (clock1 : Nat), (Instr.mapEntry t (.map (some b)) key).run Tryd.prog w = .ok (.tuple #[v0, goInt st]) (setBlock w b (.map es1 clock1)) ∧
      ∀ (w2 : World) (val : Value), w2.heap[b]? = some (.map es1 clock1) → ∃ es' clock', (Instr.entryStore t (.map (some b)) (goInt st) val).run Tryd.prog w2 = .ok () (setBlock w2 b (.map es' clock')) ∧
        (Instr.mapUpdate t (.map (some b)) key val).run Tryd.prog w = .ok () (setBlock w b (.map es' clock')) := by
  have K := lawI
  obtain ⟨s1, s2, _⟩ := F.stamped
  rcases K.find w hkey es.toList F.keys with ⟨h1, h2⟩ | ⟨j, e0, h1, h2, h3⟩
  · refine ⟨z, clock, es.push ⟨key, z, clock⟩, clock + 1, ?_, fun w2 val hw2 => ⟨es.push ⟨key, val, clock⟩, clock + 1, ?_, ?_⟩⟩
    · simp [Instr.mapEntry, run_underlying ht, MapKept.run_getObj_map hb, K.check w false hkey, h1, hz, MapKept.run_setObj_map _ hb, Result.andThen, setBlock]
    · have hn : ((es.push ⟨key, z, clock⟩).toList.map (·.born)).Nodup := by
        simp only [Array.toList_push, List.map_append, List.map_cons, List.map_nil]
        refine List.nodup_append.2 ⟨s2, by simp, fun a ha c hc e1 => ?_⟩
        simp only [List.mem_singleton] at hc
        obtain ⟨x, hx, rfl⟩ := List.mem_map.1 ha
        have := s1 x hx
        omega
      have hidx : (es.push ⟨key, z, clock⟩).findIdx? (fun e => ((e.born : Nat) : Int) == ((clock : Nat) : Int)) = some es.size := by
        rw [WideElems.findIdx_arr]
        exact WideElems.findIdx_born hn (j := es.size) (e0 := ⟨key, z, clock⟩) (by simp)
      have hmod : (es.push ⟨key, z, clock⟩).modify es.size (fun e => { e with val := val }) = es.push ⟨key, val, clock⟩ := by
        apply Array.ext'
        rw [Array.toList_modify, Array.toList_push, Array.toList_push, ← Array.length_toList, WideElems.modify_last]
      simp [Instr.entryStore, MapKept.run_getObj_map hw2, asInt, asIntOf, goInt, hidx, hmod, MapKept.run_setObj_map _ hw2, Result.andThen, setBlock]
    · simp [Instr.mapUpdate, run_underlying ht, MapKept.run_getObj_map hb, K.check w false hkey, h1, MapKept.run_setObj_map _ hb, Result.andThen, setBlock]
  · have hj : es[j]? = some e0 := by simpa using h2
    have hsame : es.modify j (fun e => { e with key := key }) = es := by
      apply Array.ext'
      rw [Array.toList_modify, ChangeMaps.modify_eq_set _ _ _ _ h2, show ({ e0 with key := key } : MapEntry) = e0 by rw [← h3]]
      exact WideElems.set_self _ _ _ h2
    refine ⟨e0.val, e0.born, es, clock, ?_, fun w2 val hw2 => ⟨es.modify j (fun e' => { e' with key := key, val := val }), clock, ?_, ?_⟩⟩
    · simp [Instr.mapEntry, run_underlying ht, MapKept.run_getObj_map hb, K.check w false hkey, h1, hj, h3, K.stays w hkey, hsame, MapKept.run_setObj_map _ hb, Result.andThen, setBlock]
    · have hidx : es.findIdx? (fun e => ((e.born : Nat) : Int) == ((e0.born : Nat) : Int)) = some j := by
        rw [WideElems.findIdx_arr]
        exact WideElems.findIdx_born s2 h2
      have hmod : es.modify j (fun e => { e with val := val }) = es.modify j (fun e' => { e' with key := key, val := val }) := by
        apply Array.ext'
        rw [Array.toList_modify, Array.toList_modify, ChangeMaps.modify_eq_set _ _ _ _ h2, ChangeMaps.modify_eq_set _ _ _ _ h2, ← h3]
      simp [Instr.entryStore, MapKept.run_getObj_map hw2, asInt, asIntOf, goInt, hidx, hmod, MapKept.run_setObj_map _ hw2, Result.andThen, setBlock]
    · simp [Instr.mapUpdate, run_underlying ht, MapKept.run_getObj_map hb, K.check w false hkey, h1, hj, h3, K.stays w hkey, MapKept.run_setObj_map _ hb, Result.andThen, setBlock]
theorem grown_setBlock {w : World} {b : Nat} {es : Array MapEntry} {clock : Nat} (h : w.heap[b]? = some (.map es clock)) (o' : Obj) : w.grownBy (setBlock w b o') (some b) ∧ (setBlock w b o').heap.size = w.heap.size :=
  ⟨⟨rfl, rfl, rfl, by simp [setBlock], fun i _ hi => heap_setBlock_other h o' fun e => hi (by rw [e])⟩, by simp [setBlock]⟩
/-- the entry, then what is stored there -/
theorem IM.entry {w : World} {b : Nat} {es : IVs} (h : IM w b es) {t e : TypeId} (ht : Tryd.prog.underlying t = some (.map 3 e)) {z : Value} (hz : ∀ u : World, (zeroValue e).run Tryd.prog u = .ok z u) (hn : es.length < maxLen) {x : Int} (hx : (Lit.int .i64 x).wf = true) :
    ∃ (v0 : Value) (st : Nat) (w1 : World), (Instr.mapEntry t (.map (some b)) (.int .i64 x)).run Tryd.prog w = .ok (.tuple #[v0, goInt st]) w1 ∧ w.grownBy w1 (some b) ∧ w1.heap.size = w.heap.size ∧
      ∀ (w2 : World) (val : Value), w2.heap[b]? = w1.heap[b]? → ∃ w3, (Instr.entryStore t (.map (some b)) (goInt st) val).run Tryd.prog w2 = .ok () w3 ∧ IM w3 b (putI x val es) ∧ w2.grownBy w3 (some b) ∧ w3.heap.size = w2.heap.size := by
  have h' := h
  obtain ⟨_, es0, clock, hb, F, _, _⟩ := h'
  obtain ⟨v0, st, es1, clock1, hrun, hst⟩ := int_two ht hz hb F (keyI hx)
  obtain ⟨g1, z1⟩ := grown_setBlock hb (.map es1 clock1)
  refine ⟨v0, st, _, hrun, g1, z1, fun w2 val hw2 => ?_⟩
  rw [heap_setBlock_same hb] at hw2
  obtain ⟨es', clock', hrun2, hup⟩ := hst w2 val hw2
  obtain ⟨w', hup2, him, _, _⟩ := h.store ht hn hx val
  rw [hup] at hup2
  injection hup2 with _ hw
  subst hw
  obtain ⟨g2, z2⟩ := grown_setBlock hw2 (.map es' clock')
  exact ⟨_, hrun2, him.step (by rw [heap_setBlock_same hw2, heap_setBlock_same hb]), g2, z2⟩
end Go.Proofs.YtbdokphemdkhmaaDoor
