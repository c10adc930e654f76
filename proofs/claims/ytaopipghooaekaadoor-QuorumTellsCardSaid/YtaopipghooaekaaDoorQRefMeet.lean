/- muntinref22.Meet: the contract; the plain law beneath it. -/
import Derived.Test.YtaopipghooaekaaDoorQRefWon
import Derived.Test.YtaopipghooaekaaDoorQMeetsPlain
set_option linter.unusedVariables false
set_option linter.unusedSimpArgs false
namespace Go.Proofs.YtaopipghooaekaaDoor
open Go.RowKit

def pop5 (a : Nat) : Nat := a % 2 + a / 2 % 2 + a / 4 % 2 + a / 8 % 2 + a / 16 % 2
def wonN (a i : Nat) : Bool := decide (pop5 a < 2 * pop5 (a &&& i))
def maskT : List Int → Nat
  | [] => 0
  | n :: ns => 2 ^ (n.toNat - 1) + maskT ns
def winsT (a : Nat) : List Nat := (List.range 32).filter (wonN a)
theorem won_mask_all : ∀ ns ∈ subsF 5, ∀ i ∈ List.range 32, rightB ns = true → wonB ns (someT i) = wonN (maskT ns) i := by decide +kernel
theorem meet_mask_all : ∀ ns ∈ subsF 5, ∀ ms ∈ subsF 5, rightB ns = true → rightB ms = true → meetB ns ms = (winsT (maskT ns)).all fun i => (winsT (maskT ms)).all fun k => (i &&& k) != 0 := by decide +kernel
theorem meet_ref {ns ms : List Int} (h1 : rightB ns = true) (h2 : rightB ms = true) : meetB ns ms = true ↔ ∀ i < 32, ∀ k < 32, wonB ns (someT i) = true → wonB ms (someT k) = true → i &&& k ≠ 0 := by
  rw [meet_mask_all ns (right_subs h1) ms (right_subs h2) h1 h2]
  simp only [List.all_eq_true, winsT, List.mem_filter, List.mem_range, bne_iff_ne, ne_eq]
  constructor
  · intro h i hi k hk hw1 hw2
    refine h i ⟨hi, ?_⟩ k ⟨hk, ?_⟩
    · rw [← won_mask_all ns (right_subs h1) i (List.mem_range.2 hi) h1]; exact hw1
    · rw [← won_mask_all ms (right_subs h2) k (List.mem_range.2 hk) h2]; exact hw2
  · rintro h i ⟨hi, hw1⟩ k ⟨hk, hw2⟩
    refine h i hi k hk ?_ ?_
    · rw [won_mask_all ns (right_subs h1) i (List.mem_range.2 hi) h1]; exact hw1
    · rw [won_mask_all ms (right_subs h2) k (List.mem_range.2 hk) h2]; exact hw2
theorem and_nat_all : ∀ i ∈ List.range 32, ∀ k ∈ List.range 32, bits .and .i64 (i : Int) (k : Int) = ((i &&& k : Nat) : Int) := by decide +kernel

theorem box_cell2r {w w1 : World} {u v : Value} {t t2 : TypeId} (h : Below ((w.alloc (.cells #[u] t)).alloc (.cells #[v] t2)).heap.size ((w.alloc (.cells #[u] t)).alloc (.cells #[v] t2)) w1) : w1.cell? ⟨w.heap.size, 0, none⟩ = some u ∧ w1.cell? ⟨w.heap.size + 1, 0, none⟩ = some v := by
  constructor
  · refine below_cell h ?_
    rw [World.cell?_alloc_lt _ _ _ (by simp), World.cell?_alloc_at _ _ _ _ rfl]; rfl
  · refine below_cell h ?_
    rw [World.cell?_alloc_at _ _ _ _ (by simp)]; rfl

set_option maxRecDepth 100000 in
set_option maxHeartbeats 2000000 in
theorem refmeet_any (A : Option Addr) (n c : Nat) (ns : List Int) (A2 : Option Addr) (n2 c2 : Nat) (ms : List Int) (w : World) (hr : RI w A ns) (hl : ns.length = n) (hn : n ≤ 100000000000000) (hr2 : RI w A2 ms) (hl2 : ms.length = n2) (hn2 : n2 ≤ 100000000000000) :
    Calls Tryd.prog 12 #[.agg #[.slice A n c], .agg #[.slice A2 n2 c2]] w fun e w' => e = .returned (.bool (meetB ns ms)) ∧ Below w.heap.size w w' := by
  obtain ⟨wb, hwb⟩ : ∃ wb, wb = (w.alloc (.cells #[.slice A n c] 24)).alloc (.cells #[.slice A2 n2 c2] 24) := ⟨_, rfl⟩
  have b : Below w.heap.size w wb := by rw [hwb]; exact (below_alloc w _).alloc (below_alloc w _).size _
  have HB := Lib.hid (show ∀ w1, Below wb.heap.size wb w1 → w1.cell? ⟨w.heap.size, 0, none⟩ = some (.slice A n c) ∧ w1.cell? ⟨w.heap.size + 1, 0, none⟩ = some (.slice A2 n2 c2) from fun w1 h => box_cell2r (by rw [← hwb]; exact h))
  have HW := Lib.hid hwb
  obtain ⟨p, hp⟩ : ∃ p, p = rightB ns := ⟨_, rfl⟩
  obtain ⟨q, hq⟩ : ∃ q, q = rightB ms := ⟨_, rfl⟩
  have HQ1 := Lib.hid fun (w1 : World) (h : Below wb.heap.size wb w1) => refright_any A n c ns w1 ((hr.below b).below h) hl hn
  have HQ2 := Lib.hid fun (w1 : World) (h : Below wb.heap.size wb w1) => refright_any A2 n2 c2 ms w1 ((hr2.below b).below h) hl2 hn2
  rw [← hp] at HQ1
  rw [← hq] at HQ2
  have HW1 := Lib.hid fun (w1 : World) (h : Below wb.heap.size wb w1) (X : Option Addr) (m cx : Nat) (l : List Int) (r : Bool) (hx : RI w1 X l) (hlm : l.length = m) (hm : m ≤ 5) (hr1 : wonB ns l = r) => (show Calls Tryd.prog 22 #[.agg #[.slice A n c], .slice X m cx] w1 fun e w' => e = .returned (.bool r) ∧ Below w1.heap.size w1 w' from by rw [← hr1]; exact refwon_any A n c ns X m cx l w1 ((hr.below b).below h) hl hn hx hlm (by omega))
  have HW2 := Lib.hid fun (w1 : World) (h : Below wb.heap.size wb w1) (X : Option Addr) (m cx : Nat) (l : List Int) (r : Bool) (hx : RI w1 X l) (hlm : l.length = m) (hm : m ≤ 5) (hr1 : wonB ms l = r) => (show Calls Tryd.prog 22 #[.agg #[.slice A2 n2 c2], .slice X m cx] w1 fun e w' => e = .returned (.bool r) ∧ Below w1.heap.size w1 w' from by rw [← hr1]; exact refwon_any A2 n2 c2 ms X m cx l w1 ((hr2.below b).below h) hl2 hn2 hx hlm (by omega))
  have HP := Lib.hid hp
  have HQ := Lib.hid hq
  clear hr hr2 hl hl2 hwb hp hq
  have ARM : True := trivial
  cases p with
  | false =>
    have HM := Lib.hid (show meetB ns ms = false by simp [meetB, HP.out.symm])
    go_enter Tryd.func12, Tryd.ntmps12
    go_wp2_with (first
      | (go_at_call 17; rw [← HW.out]; refine (HQ1.out _ (Below.refl _ _)).mono ?_; rintro e w1 ⟨rfl, b1⟩; obtain ⟨k1, k2⟩ := HB.out _ b1)
      | (go_at_call 17; refine (HQ2.out _ b1).mono ?_; rintro e w2 ⟨rfl, b2⟩))
    go_ret
    exact ⟨by rw [HM.out]; rfl, b.trans ((below_then b1 b1.size b2).mono b.size)⟩
  | true =>
    cases q with
    | false =>
      have HM := Lib.hid (show meetB ns ms = false by simp [meetB, HQ.out.symm])
      go_enter Tryd.func12, Tryd.ntmps12
      go_wp2_with (first
        | (go_at_call 17; rw [← HW.out]; refine (HQ1.out _ (Below.refl _ _)).mono ?_; rintro e w1 ⟨rfl, b1⟩; obtain ⟨k1, k2⟩ := HB.out _ b1)
        | (go_at_call 17; refine (HQ2.out _ b1).mono ?_; rintro e w2 ⟨rfl, b2⟩))
      go_ret
      exact ⟨by rw [HM.out]; rfl, b.trans ((below_then b1 b1.size b2).mono b.size)⟩
    | true =>
      have HMR := Lib.hid (meet_ref HP.out.symm HQ.out.symm)
      go_enter Tryd.func12, Tryd.ntmps12
      go_wp2_with (first
        | (go_at_call 17; rw [← HW.out]; refine (HQ1.out _ (Below.refl _ _)).mono ?_; rintro e w1 ⟨rfl, b1⟩; obtain ⟨k1, k2⟩ := HB.out _ b1)
        | (go_at_call 17; refine (HQ2.out _ b1).mono ?_; rintro e w2 ⟨rfl, b2⟩; (have b12 := below_then b1 b1.size b2); clear k1 k2))
      go_loopg [7] 32 (fun m ii wr => ∃ i : Nat, m = 32 - i ∧ i ≤ 32 ∧ ii = .int .i64 i ∧ Hid (∀ i' < i, ∀ k < 32, wonB ns (someT i') = true → wonB ms (someT k) = true → i' &&& k ≠ 0) ∧ Below wb.heap.size wb wr)
      case atStart => exact ⟨0, by omega, by omega, rfl, Lib.hid (fun i' h => by omega), b12⟩
      case round =>
        obtain ⟨i, hm, hi, rfl, HF, bel⟩ := hrel
        by_cases hil : i < 32
        · have hi1 : (i : Int) < 32 := by omega
          go_wp2_with fail
          go_loopg [8] 32 (fun m ki wr2 => ∃ k : Nat, m = 32 - k ∧ k ≤ 32 ∧ ki = .int .i64 k ∧ Hid (∀ k' < k, wonB ns (someT i) = true → wonB ms (someT k') = true → i &&& k' ≠ 0) ∧ Below wb.heap.size wb wr2)
          case atStart => exact ⟨0, by omega, by omega, rfl, Lib.hid (fun k' h => by omega), bel⟩
          case round =>
            obtain ⟨k, hm2, hk, rfl, HF2, bel2⟩ := hrel
            by_cases hkl : k < 32
            · have hk1 : (k : Int) < 32 := by omega
              obtain ⟨x, hx⟩ : ∃ x, x = wonB ns (someT i) := ⟨_, rfl⟩
              obtain ⟨y, hy⟩ : ∃ y, y = wonB ms (someT k) := ⟨_, rfl⟩
              have HX := Lib.hid hx
              have HY := Lib.hid hy
              have hand := and_nat_all i (List.mem_range.2 hil) k (List.mem_range.2 hkl)
              clear hx hy
              obtain ⟨r, hr⟩ : ∃ r : Bool, r = (((i &&& k : Nat) : Int) == 0) := ⟨_, rfl⟩
              have HR := Lib.hid hr
              rw [hand.symm] at hr
              have hr2 := hr.symm
              clear hr hand
              cases x <;> cases y <;> cases r
              all_goals
                go_wp2_with (first
                  | (go_at_call 22; (have hb6 := b6.size); refine (HW2.out _ b6 X2 m2 cx2 _ _ ((rx2.below b5)) hlx2 hmx2 HY.out.symm).mono ?_; rintro e w6 ⟨rfl, b6'⟩; have b7 := below_then b6 b6.size b6')
                  | (go_at_call 22; refine (HW1.out _ b4 X1 m1 cx1 _ _ (rx1.below b4') hlx1 hmx1 HX.out.symm).mono ?_; rintro e w5 ⟨rfl, b5⟩; have b6 := below_then b4 b4.size b5; obtain ⟨k3, k4⟩ := HB.out _ b6)
                  | (go_at_call 38; (have hb3 := b3.size); refine (some_any k _ hkl).mono ?_; rintro e w4 ⟨X2, cx2, m2, rfl, hlx2, hmx2, rx2, b4'⟩; have b4 := below_then b3 b3.size b4'; obtain ⟨k1, k2⟩ := HB.out _ b4)
                  | (go_at_call 38; refine (some_any i _ hil).mono ?_; rintro e w3 ⟨X1, cx1, m1, rfl, hlx1, hmx1, rx1, b3'⟩; have b3 := below_then bel2 bel2.size b3'))
              all_goals first
                | (go_roundg (32 - (k + 1))
                   case measure => omega
                   case rel =>
                     refine ⟨k + 1, rfl, by omega, by go_num, Lib.hid ?_, by assumption⟩
                     intro k' hk'
                     by_cases hkk : k' = k
                     · subst hkk
                       intro h1 h2
                       have e1 := HX.out
                       have e2 := HY.out
                       have e3 := HR.out
                       first
                         | (rw [← e1] at h1; exact absurd h1 (by decide))
                         | (rw [← e2] at h2; exact absurd h2 (by decide))
                         | (intro h3; rw [h3] at e3; exact absurd e3 (by decide))
                     · exact HF2.out k' (by omega))
                | (go_ret
                   have hm : meetB ns ms = false := by
                     cases h : meetB ns ms with
                     | false => rfl
                     | true =>
                       have e3 := HR.out
                       refine absurd ?_ (HMR.out.1 h i hil k hkl HX.out.symm HY.out.symm)
                       have := beq_iff_eq.1 e3.symm
                       omega
                   exact ⟨by rw [hm]; rfl, b.trans (b7.mono b.size)⟩)
            · obtain rfl : k = 32 := by omega
              go_wp2_with fail
              go_roundg (32 - (i + 1))
              case measure => omega
              case rel =>
                refine ⟨i + 1, rfl, by omega, by go_num, Lib.hid ?_, bel2⟩
                intro i' hi'
                by_cases hii : i' = i
                · subst hii
                  exact HF2.out
                · exact HF.out i' (by omega)
        · obtain rfl : i = 32 := by omega
          go_wp2_with fail
          go_ret
          exact ⟨by rw [HMR.out.2 HF.out]; rfl, b.trans (bel.mono b.size)⟩
end Go.Proofs.YtaopipghooaekaaDoor
