/- wire.Open: the frame at the front. -/
import Derived.Test.YtocjfiahkdpicaaDoorFrame
set_option linter.unusedVariables false
set_option linter.unusedSimpArgs false
namespace Go.Proofs.YtocjfiahkdpicaaDoor
open Go.RowKit

/-- four bytes from place i on, as a number -/
def numAt (b : List UInt8) (i : Nat) : Nat := num4 (b.getD i 0) (b.getD (i + 1) 0) (b.getD (i + 2) 0) (b.getD (i + 3) 0)
/-- what opening tells, as an error's number -/
def openE (b : List UInt8) : Nat :=
  if b.length < 4 then 3 else if 1048576 < numAt b 0 then 2 else if b.length < numAt b 0 + 8 then 3 else if crc (b.take (numAt b 0 + 4)) ≠ numAt b (numAt b 0 + 4) then 5 else 0
/-- what is in the frame -/
def openP (b : List UInt8) : List UInt8 := if openE b = 0 then (b.drop 4).take (numAt b 0) else []
/-- how many bytes it takes -/
def openN (b : List UInt8) : Nat := if openE b = 0 then numAt b 0 + 8 else 0
theorem numAt_lt (b : List UInt8) (i : Nat) : numAt b i < 4294967296 := by
  unfold numAt num4
  have := (b.getD i 0).toNat_lt
  have := (b.getD (i + 1) 0).toNat_lt
  have := (b.getD (i + 2) 0).toNat_lt
  have := (b.getD (i + 3) 0).toNat_lt
  omega

theorem numAt_drop (b : List UInt8) (k : Nat) : numAt (b.drop k) 0 = numAt b k := by simp [numAt, List.getD]
/-- get, of whatever reads as bytes -/
theorem get_rb (A : Option Addr) (len cap : Nat) (bs : List UInt8) (w : World) (hl : bs.length = len) (h4 : 4 ≤ len) (hr : RB w A bs) :
    Calls Tryd.prog 33 #[.slice A len cap] w fun e w' => e = .returned (.int .i64 (numAt bs 0)) ∧ Below w.heap.size w w' := by
  subst hl
  obtain ⟨g, o, rfl, _, hc⟩ := hr.addr (by omega)
  have e : ∀ i (hi : i < bs.length), bs.getD i 0 = bs[i] := fun i hi => by simp [List.getD, hi]
  refine (get_any g o bs.length cap (bs.getD 0 0) (bs.getD 1 0) (bs.getD 2 0) (bs.getD 3 0) w h4 ?_ ?_ ?_ ?_).mono ?_
  · rw [e 0 (by omega)]; exact hc 0 (by omega)
  · rw [e 1 (by omega)]; exact hc 1 (by omega)
  · rw [e 2 (by omega)]; exact hc 2 (by omega)
  · rw [e 3 (by omega)]; exact hc 3 (by omega)
  · rintro e w' ⟨rfl, n, rfl⟩
    exact ⟨rfl, ⟨rfl, rfl, rfl, Nat.le_refl _, fun _ _ => rfl⟩⟩

set_option maxRecDepth 100000 in
set_option maxHeartbeats 1000000 in
theorem open_any (A : Option Addr) (len c : Nat) (bs : List UInt8) (w : World) (hl : bs.length = len) (hc : len ≤ c) (hn : len ≤ 140737488351232) (hr : RB w A bs) :
    Calls Tryd.prog 15 #[.slice A len c] w fun e w' => ∃ v, e = .returned (.tuple #[v, .int .i64 (openN bs), errV (openE bs)]) ∧
      w'.ownsRow w.heap.size 5 1 v (openP bs).length (bv (openP bs)) ∧ Below w.heap.size w w' := by
  subst hl
  by_cases h4 : bs.length < 4
  · have e1 : openE bs = 3 := by simp [openE, h4]
    have e2 : openP bs = [] := by simp [openP, e1]
    have e3 : openN bs = 0 := by simp [openN, e1]
    rw [e1, e2, e3, errV_pos 3 (by decide)]
    go_enter Tryd.func15, Tryd.ntmps15
    go_wp2_with fail
    go_ret3
    exact ⟨_, rfl, World.ownsRow_nil _ _ _ _, Below.refl _ _⟩
  · obtain ⟨n, hnn⟩ : ∃ n, n = numAt bs 0 := ⟨_, rfl⟩
    have hlt := numAt_lt bs 0
    rw [← hnn] at hlt
    by_cases hlong : 1048576 < n
    · have e1 : openE bs = 2 := by simp [openE, h4, ← hnn, hlong]
      have e2 : openP bs = [] := by simp [openP, e1]
      have e3 : openN bs = 0 := by simp [openN, e1]
      rw [e1, e2, e3, errV_pos 2 (by decide)]
      clear e1 e2 e3
      have HN := Lib.hid hnn
      clear hnn
      go_enter Tryd.func15, Tryd.ntmps15
      go_wp2_with fail
      refine (get_rb A bs.length c bs w rfl (by omega) hr).mono ?_
      rw [← HN.out]
      rintro e w1 ⟨rfl, b1⟩
      go_wp2_with fail
      go_ret3
      exact ⟨_, rfl, World.ownsRow_nil _ _ _ _, b1⟩
    · by_cases hshort : bs.length < n + 8
      · have e1 : openE bs = 3 := by simp [openE, h4, ← hnn, hlong, hshort]
        have e2 : openP bs = [] := by simp [openP, e1]
        have e3 : openN bs = 0 := by simp [openN, e1]
        rw [e1, e2, e3, errV_pos 3 (by decide)]
        clear e1 e2 e3
        have HN := Lib.hid hnn
        clear hnn
        go_enter Tryd.func15, Tryd.ntmps15
        go_wp2_with fail
        refine (get_rb A bs.length c bs w rfl (by omega) hr).mono ?_
        rw [← HN.out]
        rintro e w1 ⟨rfl, b1⟩
        go_wp2_with fail
        go_ret3
        exact ⟨_, rfl, World.ownsRow_nil _ _ _ _, b1⟩
      · obtain ⟨s, hs⟩ : ∃ s, s = crc (bs.take (n + 4)) := ⟨_, rfl⟩
        obtain ⟨t, ht⟩ : ∃ t, t = numAt bs (n + 4) := ⟨_, rfl⟩
        have HN := Lib.hid hnn
        have HS := Lib.hid hs
        have HT := Lib.hid ht
        clear hnn hs ht
        by_cases hst : s = t
        · subst hst
          have e1 : openE bs = 0 := by
            have hst2 : crc (bs.take (n + 4)) = numAt bs (n + 4) := by rw [← HS.out, ← HT.out]
            simp [openE, h4, ← HN.out, hlong, hshort, hst2]
          have e2 : openP bs = (bs.drop 4).take n := by simp [openP, e1, ← HN.out]
          have e3 : openN bs = n + 8 := by simp [openN, e1, ← HN.out]
          rw [e1, e2, e3, errV_zero]
          clear e1 e2 e3
          obtain ⟨i0, hi, hz0, hz1, hz2⟩ := info_parts info_u8
          go_enter Tryd.func15, Tryd.ntmps15
          go_wp2_with fail
          refine (get_rb A bs.length c bs w rfl (by omega) hr).mono ?_
          rw [← HN.out]
          rintro e w1 ⟨rfl, b1⟩
          have r1 := hr.below b1
          obtain ⟨g, o, rfl, hg, _⟩ := hr.addr (by omega)
          have i1 : IntKind.i64.wrap ((n : Int) + 4) = (n : Int) + 4 := IntWalk.i64_in _ (by omega)
          have i2 : 0 ≤ (n : Int) + 4 := by omega
          have i3 : ((n : Int) + 4).toNat = n + 4 := by omega
          have i4 : (n : Int) + 4 ≤ (c : Int) := by omega
          have i5 : (n : Int) + 4 ≤ (bs.length : Int) := by omega
          have i6 : ¬ c = n + 4 := by omega
          have ht : numAt (bs.drop (n + 4)) 0 = s := by rw [numAt_drop, HT.out]
          have HT2 := Lib.hid ht
          clear ht
          go_wp2_with fail
          go_region_held3 (fun w' => Below w.heap.size w w') (first | assumption | exact b1.drew | exact below_then b1.drew b1.size b2 | exact below_then (by assumption) (Below.size (by assumption)) b3)
            (first
              | (go_at_call 30; refine (sum_len (some ⟨g, o, none⟩) (n + 4) c (bs.take (n + 4)) _ ?_ ?_ ?_).mono ?_; (simp; omega); omega; exact (hr.below (by assumption)).take _; rw [← HS.out]; rintro e w2 ⟨rfl, b2⟩)
              | (go_at_call 33; refine (get_rb (some ⟨g, o + (n + 4), none⟩) (bs.length - (n + 4)) (c - (n + 4)) (bs.drop (n + 4)) _ ?_ ?_ ?_).mono ?_; (simp); omega; exact (hr.below (by assumption)).drop _; rw [HT2.out]; rintro e w3 ⟨rfl, b3⟩))
          have b4 : Below w.heap.size w w3 := by assumption
          clear b2 b3
          have hbne : ((s : Int) != (s : Int)) = false := by simp
          have r4 : RB w3 (some ⟨g, o + 4, none⟩) ((bs.drop 4).take n) := ((hr.below b4).drop 4).take n
          go_wp2_with (at_builtin; refine wpList_append_bytes rfl _ _ rfl w.heap.size (.slice none 0 0) [] ((bs.drop 4).take n) 0 n (c - 4) _ rfl rfl (World.ownsRow_nil _ _ _ _) r4 (by simp; omega) (by simp) rfl (by omega) b4.size ?_; intro v' w4 hown hg)
          have b5 : Below w.heap.size w w4 := b4.grown hg b4.size (fun k hk => by cases hk)
          rw [Nat.zero_add, List.nil_append] at hown
          clear hg b4
          go_wp2_with fail
          go_ret3
          refine ⟨v', by simp, ?_, b5⟩
          have hlen : ((bs.drop 4).take n).length = n := by simp; omega
          rw [hlen]
          exact hown
        · have hst' : ((s : Int) == (t : Int)) = false := beq_eq_false_iff_ne.2 (by omega)
          have e1 : openE bs = 5 := by
            have hst2 : ¬ crc (bs.take (n + 4)) = numAt bs (n + 4) := by rw [← HS.out, ← HT.out]; exact hst
            simp [openE, h4, ← HN.out, hlong, hshort, hst2]
          have e2 : openP bs = [] := by simp [openP, e1]
          have e3 : openN bs = 0 := by simp [openN, e1]
          rw [e1, e2, e3, errV_pos 5 (by decide)]
          clear e1 e2 e3
          go_enter Tryd.func15, Tryd.ntmps15
          go_wp2_with fail
          refine (get_rb A bs.length c bs w rfl (by omega) hr).mono ?_
          rw [← HN.out]
          rintro e w1 ⟨rfl, b1⟩
          have r1 := hr.below b1
          obtain ⟨g, o, rfl, hg, _⟩ := hr.addr (by omega)
          have i1 : IntKind.i64.wrap ((n : Int) + 4) = (n : Int) + 4 := IntWalk.i64_in _ (by omega)
          have i2 : 0 ≤ (n : Int) + 4 := by omega
          have i3 : ((n : Int) + 4).toNat = n + 4 := by omega
          have i4 : (n : Int) + 4 ≤ (c : Int) := by omega
          have i5 : (n : Int) + 4 ≤ (bs.length : Int) := by omega
          have i6 : ¬ c = n + 4 := by omega
          have ht : numAt (bs.drop (n + 4)) 0 = t := by rw [numAt_drop, HT.out]
          have HT2 := Lib.hid ht
          clear ht
          go_wp2_with fail
          go_region_held3 (fun w' => Below w.heap.size w w') (first | assumption | exact b1.drew | exact below_then b1.drew b1.size b2 | exact below_then (by assumption) (Below.size (by assumption)) b3)
            (first
              | (go_at_call 30; refine (sum_len (some ⟨g, o, none⟩) (n + 4) c (bs.take (n + 4)) _ ?_ ?_ ?_).mono ?_; (simp; omega); omega; exact (hr.below (by assumption)).take _; rw [← HS.out]; rintro e w2 ⟨rfl, b2⟩)
              | (go_at_call 33; refine (get_rb (some ⟨g, o + (n + 4), none⟩) (bs.length - (n + 4)) (c - (n + 4)) (bs.drop (n + 4)) _ ?_ ?_ ?_).mono ?_; (simp); omega; exact (hr.below (by assumption)).drop _; rw [HT2.out]; rintro e w3 ⟨rfl, b3⟩))
          have b4 : Below w.heap.size w w3 := by assumption
          clear b2 b3
          have hbne : ((s : Int) != (t : Int)) = true := by rw [bne_iff_ne]; omega
          go_wp2_with fail
          go_ret3
          exact ⟨_, rfl, World.ownsRow_nil _ _ _ _, b4⟩
end Go.Proofs.YtocjfiahkdpicaaDoor
