/- quorum.Won: the contract. -/
import Derived.Test.YtaopipghooaekaaDoorQHas
set_option linter.unusedVariables false
set_option linter.unusedSimpArgs false
namespace Go.Proofs.YtaopipghooaekaaDoor
open Go.RowKit

/-- is there a majority among nodes? -/
def wonB (ns l : List Int) : Bool := rightB ns && mostB ns.length (among ns l)
theorem wonB_no {ns l : List Int} (h : rightB ns = false) : wonB ns l = false := by simp [wonB, h]
theorem wonB_ok {ns l : List Int} (h : rightB ns = true) : wonB ns l = mostB ns.length (among ns l) := by simp [wonB, h]
/-- a box behind what changed nothing older -/
theorem box_cell {w w1 : World} {v : Value} {t : TypeId} (h : Below (w.alloc (.cells #[v] t)).heap.size (w.alloc (.cells #[v] t)) w1) : w1.cell? ⟨w.heap.size, 0, none⟩ = some v := by
  rw [World.cell?_of_block (w := w.alloc (.cells #[v] t)) (h.block _ (by simp)), World.cell?_alloc_at _ _ _ _ (by simp)]
  rfl
theorem box_below {w w1 : World} {o : Obj} (h : Below (w.alloc o).heap.size (w.alloc o) w1) : Below w.heap.size w w1 :=
  below_then (below_alloc w o) (below_alloc w o).size h

theorem among_cons (x : Int) (ns l : List Int) : among (x :: ns) l = (if l.contains x then 1 else 0) + among ns l := by
  unfold among
  cases h : l.contains x <;> simp [List.filter_cons, h] <;> (try simp at h) <;> simp [h] <;> omega

set_option maxRecDepth 100000 in
set_option maxHeartbeats 2000000 in
theorem won_any (A : Option Addr) (n c : Nat) (ns : List Int) (A2 : Option Addr) (n2 c2 : Nat) (l : List Int) (w : World) (hr : RI w A ns) (hl : ns.length = n) (hn : n ≤ 100000000000000) (hr2 : RI w A2 l) (hl2 : l.length = n2) (hn2 : n2 ≤ 100000000000000) :
    Calls Tryd.prog 21 #[.agg #[.slice A n c], .slice A2 n2 c2] w fun e w' => e = .returned (.bool (wonB ns l)) ∧ Below w.heap.size w w' := by
  have b := below_alloc w (.cells #[.slice A n c] 24)
  have HR := Lib.hid (hr.below b)
  have HR2 := Lib.hid (hr2.below b)
  have HL := Lib.hid hl
  have HQ := Lib.hid (right_any A n c ns _ HR.out hl hn)
  have HA := Lib.hid fun (w1 : World) (h : RI w1 A2 l) (x : Int) => among_any A2 n2 c2 l x w1 h hl2 hn2
  have HM := Lib.hid fun (w1 : World) (k : Int) => most_any A n c k w1 hn
  clear hr hr2 hl hl2
  cases hb : rightB ns with
  | false =>
    rw [rightE_no hb] at HQ
    rw [wonB_no hb]
    clear hb
    go_enter Tryd.func21, Tryd.ntmps21
    go_wp2_with (go_at_call 14; refine HQ.out.mono ?_; rintro e w1 ⟨rfl, b1⟩; rw [errQ_one])
    go_ret
    exact ⟨rfl, box_below b1⟩
  | true =>
    have hlen := right_len hb
    rw [HL.out] at hlen
    rw [rightE_ok hb] at HQ
    rw [wonB_ok hb, HL.out]
    clear hb
    go_enter Tryd.func21, Tryd.ntmps21
    go_wp2_with (go_at_call 14; refine HQ.out.mono ?_; rintro e w1 ⟨rfl, b1⟩; rw [errQ_zero]; have c1 := box_cell b1)
    go_loopg [5, 14] n (fun m zi ki wr => ∃ (k z : Nat), m = n - k ∧ k ≤ n ∧ zi = .int .i64 z ∧ ki = .int .i64 k ∧ Hid (among ns l = z + among (ns.drop k) l) ∧ z ≤ k ∧ wr = w1)
    case atStart => exact ⟨0, 0, by omega, by omega, rfl, rfl, Lib.hid (by simp), by omega, rfl⟩
    case round =>
      obtain ⟨k, z, hm, hk, rfl, rfl, HF, hz, rfl⟩ := hrel
      by_cases hkl : k < n
      · have hkl1 : (k : Int) < (n : Int) := by omega
        have hke : k < ns.length := by rw [HL.out]; exact hkl
        obtain ⟨g, o, rfl, hg, hc⟩ := (HR.out.below b1).addr (by omega)
        have hce := hc k hke
        obtain ⟨x, hx⟩ : ∃ x, x = ns[k] := ⟨_, rfl⟩
        have hdr : ns.drop k = ns[k] :: ns.drop (k + 1) := List.drop_eq_getElem_cons hke
        rw [← hx] at hce hdr
        have hF1 := HF.out
        rw [hdr] at hF1
        rw [among_cons] at hF1
        have HF1 := Lib.hid hF1
        have HA1 := Lib.hid (HA.out _ (HR2.out.below b1) x)
        clear hc hdr hx hF1
        cases hcn : l.contains x with
        | true =>
          rw [hcn] at HA1
          have HC := Lib.hid hcn
          clear hcn
          go_wp2_with (go_at_call 30; refine HA1.out.mono ?_; rintro e w2 ⟨rfl, rfl⟩)
          go_roundg (n - (k + 1))
          case measure => omega
          case rel =>
            refine ⟨k + 1, z + 1, rfl, by omega, by go_num, by go_num, Lib.hid ?_, by omega, rfl⟩
            have := HF1.out
            rw [HC.out] at this
            simp only [↓reduceIte] at this
            omega
        | false =>
          rw [hcn] at HA1
          have HC := Lib.hid hcn
          clear hcn
          go_wp2_with (go_at_call 30; refine HA1.out.mono ?_; rintro e w2 ⟨rfl, rfl⟩)
          go_roundg (n - (k + 1))
          case measure => omega
          case rel =>
            refine ⟨k + 1, z, rfl, by omega, rfl, by go_num, Lib.hid ?_, by omega, rfl⟩
            have := HF1.out
            rw [HC.out] at this
            simp only [Bool.false_eq_true, ↓reduceIte] at this
            omega
      · obtain rfl : k = n := by omega
        have hd : ns.drop k = [] := List.drop_of_length_le (by rw [HL.out]; exact Nat.le_refl _)
        have hF1 := HF.out
        rw [hd] at hF1
        have HM1 := Lib.hid (HM.out wr (z : Int) (by omega) (by omega))
        have hz : among ns l = z := by simpa [among] using hF1
        obtain ⟨r, hr⟩ : ∃ r, r = mostB k z := ⟨_, rfl⟩
        rw [← hr] at HM1
        have HE := Lib.hid (show mostB k (among ns l : Nat) = r by rw [hz, hr])
        clear hr hz hd hF1
        go_wp2_with (go_at_call 33; refine HM1.out.mono ?_; rintro e w2 ⟨rfl, b2⟩)
        go_ret
        exact ⟨by rw [HE.out]; rfl, below_then (box_below b1) (box_below b1).size b2⟩
end Go.Proofs.YtaopipghooaekaaDoor
