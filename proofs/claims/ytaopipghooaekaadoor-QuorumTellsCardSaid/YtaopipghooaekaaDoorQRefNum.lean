/- muntinref01.Num: the reference's number in bytes. -/
import Derived.Test.YtaopipghooaekaaDoorNum
import Derived.Test.YtaopipghooaekaaDoorQWire
set_option linter.unusedVariables false
set_option linter.unusedSimpArgs false
namespace Go.Proofs.YtaopipghooaekaaDoor
open Go.RowKit

theorem info_u8' : (Tryd.prog.info? 5).map (fun i => (i.zero, i.size, i.bytes)) = some (some (.int .u8 0), 1, 1) := info_u8

set_option maxRecDepth 100000 in
set_option maxHeartbeats 1000000 in
theorem digits_any (n : Nat) : ∀ (w : World) (h : Hid (n < 9223372036854775808)),
    Calls Tryd.prog 58 #[.int .i64 n] w fun e w' => ∃ v, e = .returned v ∧ w'.ownsRow w.heap.size 5 1 v (digs n).length (bv (digs n)) ∧ Below w.heap.size w w' := by
  induction n using Nat.strongRecOn with
  | ind n ih =>
    intro w h
    by_cases h0 : n = 0
    · subst h0
      go_enter Tryd.func58, Tryd.ntmps58
      go_wp2_with fail
      go_ret
      rw [digs_zero]
      exact ⟨_, rfl, World.ownsRow_nil _ _ _ _, Below.refl _ _⟩
    · have hd := digs_pos n h0
      have hl := digs_len8 (n / 256) (by have := h.out; omega)
      have hne : ((n : Int) == 0) = false := beq_eq_false_iff_ne.2 (by omega)
      obtain ⟨q, hqe⟩ : ∃ q, q = n / 256 := ⟨_, rfl⟩
      rw [← hqe] at hd hl
      have hq : (n : Int) / 256 = (q : Int) := by omega
      have hql : (q : Int) ≤ 36028797018963967 := by have := h.out; omega
      obtain ⟨b, hbe⟩ : ∃ b, b = UInt8.ofNat (n % 256) := ⟨_, rfl⟩
      rw [← hbe] at hd
      have hb : (n : Int) % 256 = (b.toNat : Int) := by rw [hbe]; simp
      have hb2 : (b.toNat : Int) % 256 = (b.toNat : Int) := by have := b.toNat_lt; omega
      have ih' := fun w => ih q (by omega) w (Lib.hid (by have := h.out; omega))
      have HD := Lib.hid hd
      clear hd ih hqe hbe h
      go_enter Tryd.func58, Tryd.ntmps58
      go_wp2_with fail
      refine (ih' w).mono ?_
      rintro e w1 ⟨v, rfl, own1, b1⟩
      obtain ⟨V, cv, rfl, hcv, hVn⟩ := own_shape own1
      go_wp2_with (at_builtin; refine wpList_append_one w1 rfl (.tmp 7) (.tmp 11) 37 rfl w.heap.size 5 (.int .u8 0) 1 Tryd.underlying37 info_u8 rfl (.slice V (digs q).length cv) (digs q).length (bv (digs q)) rfl own1 (.int .u8 b.toNat) rfl rfl (by unfold maxLen; omega) (by omega) b1.size ?_; intro v2 w2 own2 hg2)
      go_ret
      have b2 : Below w.heap.size w w2 := (b1.trans ((below_alloc w1 _).mono b1.size)).grown hg2 (by simp; have := b1.size; omega) (fun q hq => (own1.lt q hq).1)
      refine ⟨v2, rfl, ?_, b2⟩
      rw [HD.out, List.length_append, bv_append]
      exact own2
set_option maxHeartbeats 400000 in
theorem rnum_neg (n : Int) (w : World) (h : n < 0) :
    Calls Tryd.prog 42 #[.int .i64 n] w fun e w' => e = .returned (.tuple #[.slice none 0 0, .int .i64 1]) ∧ w' = w := by
  go_enter Tryd.func42, Tryd.ntmps42
  go_wp2_with fail
  go_ret2
  exact ⟨rfl, rfl⟩
set_option maxRecDepth 100000 in
set_option maxHeartbeats 1000000 in
theorem rnum_any (n : Nat) (w : World) (h : Hid (n < 9223372036854775808)) :
    Calls Tryd.prog 42 #[.int .i64 n] w fun e w' => ∃ v, e = .returned (.tuple #[v, .int .i64 0]) ∧ w'.ownsRow w.heap.size 5 1 v (numb n).length (bv (numb n)) ∧ Below w.heap.size w w' := by
  have hl := digs_len8 n h.out
  obtain ⟨D, hD⟩ : ∃ D, D = digs n := ⟨_, rfl⟩
  have hnb : numb n = [UInt8.ofNat D.length] ++ D := by rw [hD]; rfl
  have HNB := Lib.hid hnb
  have hdg := digits_any n w h
  rw [← hD] at hl hdg
  obtain ⟨b, hbe⟩ : ∃ b, b = UInt8.ofNat D.length := ⟨_, rfl⟩
  rw [← hbe] at HNB
  have hb : (D.length : Int) % 256 = (b.toNat : Int) := by rw [hbe]; simp
  have hb2 : (D.length : Int) = (b.toNat : Int) := by have := b.toNat_lt; omega
  have HB2 := Lib.hid hb2
  clear hnb hD hbe hb2
  go_enter Tryd.func42, Tryd.ntmps42
  go_wp2_with fail
  refine hdg.mono ?_
  rintro e w1 ⟨v, rfl, own1, b1⟩
  obtain ⟨V, cv, rfl, hcv, hVn⟩ := own_shape own1
  have r1 := RB.own own1
  have own2 : (w1.alloc (.cells #[.int .u8 (D.length : Int)] 5)).ownsRow w1.heap.size 5 1 (.slice (some ⟨w1.heap.size, 0, none⟩) 1 1) 1 (bv [b]) := by
    rw [HB2.out]
    exact own_new w1 [b] 5 (by unfold maxLen; simp)
  clear hb
  go_wp2_with (at_builtin; refine wpList_append_bytes rfl (.tmp 12) (.tmp 13) rfl w1.heap.size (.slice (some ⟨w1.heap.size, 0, none⟩) 1 1) [b] D 1 D.length cv V rfl rfl own2 (r1.alloc _) rfl hVn rfl (by omega) (by simp) ?_; intro v2 w2 own3 hg2)
  go_ret2
  have b2 : Below w.heap.size w w2 := (b1.trans ((below_alloc w1 _).mono b1.size)).grown hg2 (by simp; have := b1.size; omega) (fun q hq => by have := (own2.lt q hq).1; have := b1.size; omega)
  refine ⟨v2, rfl, ?_, b2⟩
  rw [HNB.out, List.length_append]
  refine ⟨own3.1, ?_⟩
  rcases own3.2 with h1 | ⟨g, cap, cur, hv, hg, r⟩
  · exact .inl h1
  · exact .inr ⟨g, cap, cur, hv, Nat.le_trans b1.size hg, r⟩
end Go.Proofs.YtaopipghooaekaaDoor
