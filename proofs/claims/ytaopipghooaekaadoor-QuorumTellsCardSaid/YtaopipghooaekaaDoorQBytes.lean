/- muntinref22.Bytes, quorum.Bytes: the contracts. -/
import Derived.Test.YtaopipghooaekaaDoorQRefWon
import Derived.Test.YtaopipghooaekaaDoorQRefTake
import Derived.Test.YtaopipghooaekaaDoorQChangeGood
import Derived.Deep.RegionHeld3
import Derived.Deep.LoopGhost
set_option linter.unusedVariables false
set_option linter.unusedSimpArgs false
namespace Go.Proofs.YtaopipghooaekaaDoor
open Go.RowKit

/-- numbers in bytes, one behind another -/
def numsT : List Int → List UInt8
  | [] => []
  | n :: ns => numb n.toNat ++ numsT ns
theorem numsT_append : ∀ a b : List Int, numsT (a ++ b) = numsT a ++ numsT b
  | [], b => rfl
  | n :: a, b => by simp only [List.cons_append, numsT, numsT_append a b, List.append_assoc]
/-- a configuration in bytes -/
def confT (ns : List Int) : List UInt8 := if rightB ns = true then numsT ((ns.length : Int) :: ns) else []
theorem rises_mem : ∀ (ns : List Int) (last : Int), rises last ns = true → ∀ x ∈ ns, 1 ≤ x ∧ x ≤ 5
  | n :: ns, last, h, x, hx => by
    simp only [rises, Bool.and_eq_true, nodeB, decide_eq_true_eq] at h
    rcases List.mem_cons.1 hx with rfl | hx
    · exact h.1.1
    · exact rises_mem ns n h.2 x hx
theorem right_mem {ns : List Int} (h : rightB ns = true) : ∀ x ∈ ns, 1 ≤ x ∧ x ≤ 5 := by
  simp only [rightB, Bool.and_eq_true] at h
  exact rises_mem ns 0 h.2
theorem numb_small (n : Nat) (h : n < 256) : (numb n).length ≤ 2 := by
  rw [numb_length]
  have := digs_len_lt 1 n (by omega)
  omega
theorem numsT_len : ∀ (ns : List Int), (∀ x ∈ ns, 0 ≤ x ∧ x ≤ 5) → (numsT ns).length ≤ ns.length * 2
  | [], _ => by simp [numsT]
  | n :: ns, h => by
    have h1 := h n (by simp)
    have h2 := numsT_len ns (fun x hx => h x (by simp [hx]))
    have h3 := numb_small n.toNat (by omega)
    simp only [numsT, List.length_append, List.length_cons]
    omega

set_option maxRecDepth 100000 in
set_option maxHeartbeats 2000000 in
theorem refbytes_any (A : Option Addr) (n c : Nat) (ns : List Int) (w : World) (hr : RI w A ns) (hl : ns.length = n) (hn : n ≤ 100000000000000) :
    Calls Tryd.prog 18 #[.agg #[.slice A n c]] w fun e w' => ∃ V m cv, e = .returned (.tuple #[.slice V m cv, .int .i64 (rightE ns)]) ∧ (confT ns).length = m ∧ w'.ownsRow w.heap.size 5 1 (.slice V m cv) m (bv (confT ns)) ∧ Below w.heap.size w w' := by
  obtain ⟨wb, hwb⟩ : ∃ wb, wb = w.alloc (.cells #[.slice A n c] 24) := ⟨_, rfl⟩
  have ba : Below w.heap.size w wb := by rw [hwb]; exact below_alloc _ _
  have HB := Lib.hid (show ∀ w1, Below wb.heap.size wb w1 → w1.cell? ⟨w.heap.size, 0, none⟩ = some (.slice A n c) from fun w1 h => box_cell (by rw [← hwb]; exact h))
  have HQ := Lib.hid (refright_any A n c ns wb (hr.below ba) hl hn)
  have HR := Lib.hid (hr.below ba)
  have HL := Lib.hid hl
  have HW := Lib.hid hwb
  clear hr hl hwb
  cases hb : rightB ns with
  | false =>
    rw [hb] at HQ
    rw [rightE_no hb, show confT ns = [] by unfold confT; rw [if_neg (by rw [hb]; decide)]]
    clear hb
    go_enter Tryd.func18, Tryd.ntmps18
    go_wp2_with (go_at_call 17; rw [← HW.out]; refine HQ.out.mono ?_; rintro e w1 ⟨rfl, b1⟩)
    go_ret2
    exact ⟨none, 0, 0, rfl, rfl, ⟨rfl, .inl ⟨rfl, rfl⟩⟩, ba.trans (b1.mono ba.size)⟩
  | true =>
    have hlen := right_len hb
    rw [HL.out] at hlen
    obtain ⟨h0, h5⟩ := hlen
    have HM := Lib.hid (right_mem hb)
    have HCT := Lib.hid (show confT ns = numsT ((ns.length : Int) :: ns) by unfold confT; rw [if_pos hb])
    rw [hb] at HQ
    rw [rightE_ok hb]
    have hn63 : Hid (n < 9223372036854775808) := Lib.hid (by omega)
    clear hb
    go_enter Tryd.func18, Tryd.ntmps18
    go_wp2_with (first
      | (go_at_call 17; rw [← HW.out]; refine HQ.out.mono ?_; rintro e w1 ⟨rfl, b1⟩; have q0 := HB.out _ b1)
      | (go_at_call 42; refine (rnum_any n _ hn63).mono ?_; rintro e w2 ⟨v2, rfl, own2, b2⟩; obtain ⟨V2, c2, rfl, -, -⟩ := own_shape own2))
    clear q0
    have B2 := below_then b1 b1.size b2
    have own2' : w2.ownsRow wb.heap.size 5 1 (.slice V2 (numb n).length c2) (numb n).length (bv (numb n)) := by
      refine ⟨own2.1, ?_⟩
      rcases own2.2 with h | ⟨g, cap, cur, h1, hg, r⟩
      · exact .inl h
      · exact .inr ⟨g, cap, cur, h1, Nat.le_trans b1.size hg, r⟩
    have hnb := numb_small n (by omega)
    go_loopg [5, 7] n (fun q oi ki wr => ∃ (k : Nat) (V : Option Addr) (m cv : Nat), q = n - k ∧ k ≤ n ∧ ki = .int .i64 k ∧ oi = .slice V m cv ∧ m ≤ 2 + 2 * k ∧ Hid ((numb n ++ numsT (ns.take k)).length = m) ∧ wr.ownsRow wb.heap.size 5 1 (.slice V m cv) m (bv (numb n ++ numsT (ns.take k))) ∧ Below wb.heap.size wb wr)
    case atStart => exact ⟨0, V2, _, c2, by omega, by omega, rfl, rfl, by omega, Lib.hid (by simp [numsT]), by simpa [numsT] using own2', B2⟩
    case round =>
      obtain ⟨k, V, m, cv, hm, hk, rfl, rfl, hmk, HML, own, bel⟩ := hrel
      have q1 := HB.out _ bel
      by_cases hkl : k < n
      · have hkl1 : (k : Int) < (n : Int) := by omega
        have hke : k < ns.length := by rw [HL.out]; exact hkl
        obtain ⟨g, o, rfl, hg, hc⟩ := (HR.out.below bel).addr (by omega)
        have hcv := hc k hke
        have hxm := HM.out _ (List.getElem_mem hke)
        have htk : ns.take (k + 1) = ns.take k ++ [ns[k]] := List.take_succ_eq_append_getElem hke
        obtain ⟨x, hx⟩ : ∃ x : Nat, ns[k] = (x : Int) := ⟨(ns[k]).toNat, by omega⟩
        rw [hx] at hcv hxm htk
        have hx63 : Hid (x < 9223372036854775808) := Lib.hid (by omega)
        have hxs := numb_small x (by omega)
        have HNX := Lib.hid (show numb n ++ numsT (ns.take (k + 1)) = (numb n ++ numsT (ns.take k)) ++ numb x by rw [htk, numsT_append, List.append_assoc]; simp [numsT])
        clear hc hx htk hxm
        go_wp2_with (first
          | (go_at_call 42; refine (rnum_any x _ hx63).mono ?_; rintro e w3 ⟨v3, rfl, own3, b3⟩; obtain ⟨V3, c3, rfl, -, hA3⟩ := own_shape own3; (have own' := own_below own b3); (have bel3 := below_then bel bel.size b3))
          | (at_builtin; refine wpList_append_bytes rfl (.tmp 37) (.tmp 38) rfl wb.heap.size (.slice V m cv) (numb n ++ numsT (ns.take k)) (numb x) m (numb x).length c3 V3 rfl rfl own' (RB.own own3) rfl hA3 HML.out (by omega) bel3.size ?_; intro v4 w4 own4 hg4; obtain ⟨V4, c4, rfl, -, -⟩ := own_shape own4))
        go_roundg (n - (k + 1))
        case measure => omega
        case rel =>
          refine ⟨k + 1, V4, _, c4, rfl, by omega, by go_num, rfl, by omega, Lib.hid ?_, by rw [HNX.out]; exact own4, bel3.grown hg4 bel3.size (fun j hj => (own'.lt j hj).1)⟩
          rw [HNX.out, List.length_append, HML.out]
      · obtain rfl : k = n := by omega
        go_wp2_with fail
        go_ret2
        have htk : ns.take k = ns := List.take_of_length_le (by rw [HL.out]; exact Nat.le_refl _)
        have e1 : confT ns = numb k ++ numsT (ns.take k) := by rw [htk, HCT.out, HL.out]; rfl
        refine ⟨V, m, cv, rfl, by rw [e1]; exact HML.out, ?_, ba.trans (bel.mono ba.size)⟩
        rw [e1]
        refine ⟨own.1, ?_⟩
        rcases own.2 with h | ⟨g, cap, cur, h1, hg, r⟩
        · exact .inl h
        · exact .inr ⟨g, cap, cur, h1, Nat.le_trans ba.size hg, r⟩

theorem wnum_any (n : Nat) (w : World) (h : Hid (n < 9223372036854775808)) :
    Calls Tryd.prog 39 #[.int .i64 n] w fun e w' => e = .returned (.tuple #[.slice (some ⟨w.heap.size, 0, none⟩) (numb n).length (numb n).length, .nilIface]) ∧ RB w' (some ⟨w.heap.size, 0, none⟩) (numb n) ∧ Below w.heap.size w w' := by
  refine (num_any n w h).mono ?_
  rintro e w' ⟨rfl, rfl⟩
  exact ⟨rfl, RB.block (heap_alloc_new w _) (by rw [mem_toList, List.take_of_length_le (by simp)]), below_alloc _ _⟩
theorem by_keep {B : Nat} {A : Option Addr} {n c : Nat} {ns : List Int} {w0 w w' : World} (b : Below w.heap.size w w')
    (h : w.cell? ⟨B, 0, none⟩ = some (.slice A n c) ∧ RI w A ns ∧ Below w0.heap.size w0 w) : w'.cell? ⟨B, 0, none⟩ = some (.slice A n c) ∧ RI w' A ns ∧ Below w0.heap.size w0 w' :=
  ⟨below_cell b h.1, h.2.1.below b, below_then h.2.2 h.2.2.size b⟩
theorem by_keep2 {B base : Nat} {A : Option Addr} {n c : Nat} {ns : List Int} {w0 w w' : World} (hb : w0.heap.size ≤ base) (hB : B < w0.heap.size) (hA : Hid (∀ a, A = some a → 0 < ns.length → a.block < w0.heap.size)) (b : Below base w w')
    (h : w.cell? ⟨B, 0, none⟩ = some (.slice A n c) ∧ RI w A ns ∧ Below w0.heap.size w0 w) : w'.cell? ⟨B, 0, none⟩ = some (.slice A n c) ∧ RI w' A ns ∧ Below w0.heap.size w0 w' :=
  ⟨(b.cell (by show B < base; omega)).trans h.1, h.2.1.step fun a ha h0 => b.block _ (by have := hA.out a ha h0; omega), h.2.2.trans (b.mono hb)⟩

set_option maxRecDepth 100000 in
set_option maxHeartbeats 2000000 in
theorem bytes_any (A : Option Addr) (n c : Nat) (ns : List Int) (w : World) (hr : RI w A ns) (hl : ns.length = n) (hn : n ≤ 100000000000000) :
    Calls Tryd.prog 15 #[.agg #[.slice A n c]] w fun e w' => ∃ V m cv, e = .returned (.tuple #[.slice V m cv, errQ (rightE ns)]) ∧ (confT ns).length = m ∧ w'.ownsRow w.heap.size 5 1 (.slice V m cv) m (bv (confT ns)) ∧ Below w.heap.size w w' := by
  obtain ⟨wb, hwb⟩ : ∃ wb, wb = w.alloc (.cells #[.slice A n c] 24) := ⟨_, rfl⟩
  have ba : Below w.heap.size w wb := by rw [hwb]; exact below_alloc _ _
  have HB := Lib.hid (show ∀ w1, Below wb.heap.size wb w1 → w1.cell? ⟨w.heap.size, 0, none⟩ = some (.slice A n c) from fun w1 h => box_cell (by rw [← hwb]; exact h))
  have HQ := Lib.hid (right_any A n c ns wb (hr.below ba) hl hn)
  have HR := Lib.hid (hr.below ba)
  have HL := Lib.hid hl
  have HW := Lib.hid hwb
  have hbs : w.heap.size < wb.heap.size := by rw [hwb]; simp
  clear hwb
  cases hb : rightB ns with
  | false =>
    rw [rightE_no hb] at HQ
    rw [rightE_no hb, show confT ns = [] by unfold confT; rw [if_neg (by rw [hb]; decide)], errQ_one]
    clear hb hr hl
    go_enter Tryd.func15, Tryd.ntmps15
    go_wp2_with (go_at_call 14; rw [← HW.out]; refine HQ.out.mono ?_; rintro e w1 ⟨rfl, b1⟩; rw [errQ_one])
    go_ret2
    exact ⟨none, 0, 0, rfl, rfl, ⟨rfl, .inl ⟨rfl, rfl⟩⟩, ba.trans (b1.mono ba.size)⟩
  | true =>
    have hlen := right_len hb
    rw [hl] at hlen
    obtain ⟨h0, h5⟩ := hlen
    have HM := Lib.hid (right_mem hb)
    have HCT := Lib.hid (show confT ns = numsT ((ns.length : Int) :: ns) by unfold confT; rw [if_pos hb])
    rw [rightE_ok hb] at HQ
    rw [rightE_ok hb, errQ_zero]
    have HC := Lib.hid fun (w1 : World) (h : RI w1 A ns) => clone_any A n c ns w1 h hl h0 (by omega)
    have HI := Lib.hid fun (w1 : World) (base : Nat) (v : Value) (g : Nat) (h : w1.ownsRow base 3 1 v n (iv ns)) (hbase : base ≤ w1.heap.size) (hg : w1.heap[g]? = some (.cells #[.int .i64 n] 3 (0, 0))) (hne : v.ownBlock ≠ some g) => (show Calls Tryd.prog 35 #[v, .int .i64 0, .slice (some ⟨g, 0, none⟩) 1 1] w1 fun e w' => ∃ V6 c6, e = .returned (.slice V6 (n + 1) c6) ∧ RI w' V6 ((n : Int) :: ns) ∧ Below base w1 w' from
      (insert_any base n 0 v ns n g 3 w1 h h0 (Nat.zero_le _) (by omega) hbase hg hne).mono fun e w' ⟨V, h1, ⟨A6, c6, h2, h3, _⟩, h4⟩ => ⟨A6, c6, by rw [h1, h2]; simp [hl], by simpa using h3, h4⟩)
    clear hb hr hl
    go_enter Tryd.func15, Tryd.ntmps15
    go_wp2_with (go_at_call 14; rw [← HW.out]; refine HQ.out.mono ?_; rintro e w1 ⟨rfl, b1⟩; rw [errQ_zero]; have q0 := HB.out _ b1)
    have hT : w1.drew.cell? ⟨w.heap.size, 0, none⟩ = some (.slice A n c) ∧ RI w1.drew A ns ∧ Below wb.heap.size wb w1.drew := ⟨q0, HR.out.below b1.drew, b1.drew⟩
    have hA : ∀ a, A = some a → 0 < ns.length → a.block < wb.heap.size := fun a ha h => HR.out.lt ha h
    have HAL := Lib.hid hA
    clear q0 hA
    have hw1 : wb.heap.size ≤ w1.drew.heap.size := b1.size
    go_region_held3 (fun w' => w'.cell? ⟨w.heap.size, 0, none⟩ = some (.slice A n c) ∧ RI w' A ns ∧ Below wb.heap.size wb w')
      (first | assumption | exact by_keep (by assumption) (by assumption) | exact by_keep (below_alloc _ _) (by assumption) | refine by_keep2 hw1 hbs HAL (by assumption) (by assumption))
      (first
        | (go_at_call 32; refine (HC.out _ (by go_split_ands; assumption)).mono ?_; rintro e w3 ⟨v3, rfl, ho, b4⟩; obtain ⟨g3, cap3, rfl⟩ := own_slice ho h0)
        | (go_at_call 35; have hs3 : w1.drew.heap.size ≤ w3.heap.size := b4.size; have key := HI.out (w3.alloc (.cells #[.int .i64 n] 3)) w1.drew.heap.size (.slice (some ⟨g3, 0, none⟩) n cap3) w3.heap.size (own_below ho (below_alloc _ _)) (by have := (below_alloc w3 (.cells #[.int .i64 n] 3)).size; omega) (heap_alloc_new w3 _) (own_apart ho); refine key.mono ?_; rintro e w5 ⟨V6, c6, rfl, r6, b6⟩)
        | (go_at_call 35; have key := HI.out w3 (w1.drew.alloc (.cells #[.int .i64 n] 3)).heap.size (.slice (some ⟨g3, 0, none⟩) n cap3) w1.drew.heap.size ho b4.size (by rw [b4.block _ (by simp)]; exact heap_alloc_new w1.drew _) (fun e => by have := (ho.lt _ e).1; simp at this; omega); refine key.mono ?_; rintro e w5 ⟨V6, c6, rfl, r6, b6'⟩; have b6 : Below w1.drew.heap.size w3 w5 := b6'.mono (below_alloc w1.drew (.cells #[.int .i64 n] 3)).size; clear b6'))
    all_goals
      clear key
      go_split_ands
      have B5 : Below wb.heap.size wb w5 := by assumption
      obtain ⟨L, hL⟩ : ∃ L, L = (n : Int) :: ns := ⟨_, rfl⟩
      rw [← hL] at r6
      have HLM := Lib.hid (show ∀ x ∈ L, 0 ≤ x ∧ x ≤ 5 by
        intro x hx
        rw [hL] at hx
        rcases List.mem_cons.1 hx with rfl | hx
        · omega
        · have := HM.out x hx; omega)
      have HLL := Lib.hid (show L.length = n + 1 by rw [hL, List.length_cons, HL.out])
      have HCL := Lib.hid (show confT ns = numsT L by rw [HCT.out, hL, HL.out])
      have HR6 := Lib.hid r6
      clear hL r6
      go_wp2_with fail
      go_loopg [5, 24] (n + 1) (fun q oi ki wr => ∃ (k : Nat) (V : Option Addr) (m cv : Nat), q = n + 1 - k ∧ k ≤ n + 1 ∧ ki = .int .i64 k ∧ oi = .slice V m cv ∧ m ≤ 2 * k ∧ Hid ((numsT (L.take k)).length = m) ∧ wr.ownsRow w5.heap.size 5 1 (.slice V m cv) m (bv (numsT (L.take k))) ∧ Below w5.heap.size w5 wr)
      case atStart => exact ⟨0, none, 0, 0, by omega, by omega, rfl, rfl, by omega, Lib.hid (by simp [numsT]), ⟨rfl, .inl ⟨rfl, rfl⟩⟩, Below.refl _ _⟩
      case round =>
        obtain ⟨k, V, m, cv, hm, hk, rfl, rfl, hmk, HML, own, bel⟩ := hrel
        by_cases hkl : k < n + 1
        · have hkl1 : (k : Int) < (n : Int) + 1 := by omega
          have hke : k < L.length := by rw [HLL.out]; exact hkl
          obtain ⟨g, o, rfl, hg, hc⟩ := (HR6.out.below bel).addr (by omega)
          have hcv := hc k hke
          have hxm := HLM.out _ (List.getElem_mem hke)
          have htk : L.take (k + 1) = L.take k ++ [L[k]] := List.take_succ_eq_append_getElem hke
          obtain ⟨x, hx⟩ : ∃ x : Nat, L[k] = (x : Int) := ⟨(L[k]).toNat, by omega⟩
          rw [hx] at hcv hxm htk
          have hx63 : Hid (x < 9223372036854775808) := Lib.hid (by omega)
          have hxs := numb_small x (by omega)
          have HNX := Lib.hid (show numsT (L.take (k + 1)) = numsT (L.take k) ++ numb x by rw [htk, numsT_append]; simp [numsT])
          clear hc hx htk hxm
          go_wp2_with (first
            | (go_at_call 39; refine (wnum_any x _ hx63).mono ?_; rintro e w6 ⟨rfl, r6, b6⟩; (have own' := own_below own b6); (have bel6 := below_then bel bel.size b6))
            | (at_builtin; refine wpList_append_bytes rfl (.tmp 36) (.tmp 37) rfl w5.heap.size (.slice V m cv) (numsT (L.take k)) (numb x) m (numb x).length (numb x).length (some ⟨wr.heap.size, 0, none⟩) rfl rfl own' r6 rfl (fun e => by cases e) HML.out (by omega) bel6.size ?_; intro v4 w4 own4 hg4; obtain ⟨V4, c4, rfl, -, -⟩ := own_shape own4))
          go_roundg (n + 1 - (k + 1))
          case measure => omega
          case rel =>
            refine ⟨k + 1, V4, _, c4, rfl, by omega, by go_num, rfl, by omega, Lib.hid ?_, by rw [HNX.out]; exact own4, bel6.grown hg4 bel6.size (fun j hj => (own'.lt j hj).1)⟩
            rw [HNX.out, List.length_append, HML.out]
        · obtain rfl : k = n + 1 := by omega
          go_wp2_with fail
          go_ret2
          have htk : L.take (n + 1) = L := List.take_of_length_le (by rw [HLL.out]; exact Nat.le_refl _)
          have hww : w.heap.size ≤ w5.heap.size := Nat.le_trans ba.size B5.size
          have e1 : confT ns = numsT (L.take (n + 1)) := by rw [htk, HCL.out]
          refine ⟨V, m, cv, rfl, by rw [e1]; exact HML.out, ?_, (ba.trans (B5.mono ba.size)).trans (bel.mono hww)⟩
          rw [e1]
          refine ⟨own.1, ?_⟩
          rcases own.2 with h | ⟨g, cap, cur, h1, hg, r⟩
          · exact .inl h
          · exact .inr ⟨g, cap, cur, h1, Nat.le_trans hww hg, r⟩
end Go.Proofs.YtaopipghooaekaaDoor
