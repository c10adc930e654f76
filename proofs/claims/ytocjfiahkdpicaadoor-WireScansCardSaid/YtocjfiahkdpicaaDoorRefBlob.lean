/- muntinref01.Blob, TakeBlob: the reference's blob. -/
import Derived.Test.YtocjfiahkdpicaaDoorRefTake
set_option linter.unusedVariables false
set_option linter.unusedSimpArgs false
namespace Go.Proofs.YtocjfiahkdpicaaDoor
open Go.RowKit

/-- what is owned from somewhere is owned from anywhere below -/
theorem own_base {w : World} {b b' : Nat} {e : TypeId} {s n : Nat} {v : Value} {xs : List Value} (h : w.ownsRow b' e s v n xs) (hb : b ≤ b') : w.ownsRow b e s v n xs := by
  refine ⟨h.1, ?_⟩
  rcases h.2 with h1 | ⟨g, cap, cur, hv, hg, r⟩
  · exact .inl h1
  · exact .inr ⟨g, cap, cur, hv, Nat.le_trans hb hg, r⟩

set_option maxHeartbeats 400000 in
theorem rblob_long (A : Option Addr) (n c : Nat) (w : World) (h : 65536 < n) (hn : n ≤ 140737488351232) :
    Calls Tryd.prog 25 #[.slice A n c] w fun e w' => e = .returned (.tuple #[.slice none 0 0, .int .i64 2]) ∧ w' = w := by
  go_enter Tryd.func25, Tryd.ntmps25
  go_wp2_with fail
  go_ret2
  exact ⟨rfl, rfl⟩
set_option maxRecDepth 100000 in
set_option maxHeartbeats 1000000 in
theorem rblob_any (A : Option Addr) (len c : Nat) (bs : List UInt8) (w : World) (hl : bs.length = len) (h : len ≤ 65536) (hr : RB w A bs) (hA : A = none → c = 0) :
    Calls Tryd.prog 25 #[.slice A len c] w fun e w' => ∃ v, e = .returned (.tuple #[v, .int .i64 0]) ∧ w'.ownsRow w.heap.size 5 1 v (blob bs).length (bv (blob bs)) ∧ Below w.heap.size w w' := by
  subst hl
  have hd := digs_len8 bs.length (by omega)
  have hnl := numb_length bs.length
  have hnum := rnum_any bs.length w (Lib.hid (by omega))
  have hbl : blob bs = numb bs.length ++ bs := rfl
  rw [hbl]
  generalize numb bs.length = D at hnl hnum ⊢
  have hD9 : D.length ≤ 9 := by omega
  clear hnl hd
  clear hbl
  go_enter Tryd.func25, Tryd.ntmps25
  go_wp2_with fail
  refine hnum.mono ?_
  rintro e w1 ⟨v, rfl, own1, b1⟩
  have r1 := hr.below b1
  obtain ⟨V, cv, rfl, hcv, hVn⟩ := own_shape own1
  clear hnum
  go_wp2_with (at_builtin; refine wpList_append_bytes rfl (.tmp 15) (.tmp 16) rfl w.heap.size (.slice V D.length cv) D bs D.length bs.length c A rfl rfl own1 r1 rfl hA rfl (by omega) b1.size ?_; intro v2 w2 own2 hg2)
  go_ret2
  have b2 : Below w.heap.size w w2 := b1.grown hg2 b1.size (fun q hq => (own1.lt q hq).1)
  exact ⟨v2, rfl, by rw [List.length_append]; exact own2, b2⟩

set_option maxRecDepth 100000 in
set_option maxHeartbeats 1000000 in
theorem rtakeblob_any (A : Option Addr) (len c : Nat) (bs : List UInt8) (w : World) (hl : bs.length = len) (hc : len ≤ c) (hn : len ≤ 140737488351232) (hr : RB w A bs) :
    Calls Tryd.prog 26 #[.slice A len c] w fun e w' => ∃ v, e = .returned (.tuple #[v, .int .i64 (tblN bs), .int .i64 (tblE bs)]) ∧
      w'.ownsRow w.heap.size 5 1 v (tblP bs).length (bv (tblP bs)) ∧ Below w.heap.size w w' := by
  subst hl
  have htn := rtakenum_any A bs.length c bs w rfl hc hn hr
  by_cases hE : takeE bs = 0
  · rw [hE] at htn
    have hN := takeN_le bs hE
    obtain ⟨n, hnn⟩ : ∃ n, n = takeV bs := ⟨_, rfl⟩
    obtain ⟨N, hNN⟩ : ∃ N, N = takeN bs := ⟨_, rfl⟩
    rw [← hnn, ← hNN] at htn
    rw [← hNN] at hN
    have HT := Lib.hid htn
    clear htn
    by_cases hlong : 65536 < n
    · have e1 : tblE bs = 2 := by simp [tblE, hE, ← hnn, hlong]
      have e2 : tblP bs = [] := by simp [tblP, e1]
      have e3 : tblN bs = 0 := by simp [tblN, e1]
      rw [e1, e2, e3]
      clear e1 e2 e3 hnn hNN
      go_enter Tryd.func26, Tryd.ntmps26
      go_wp2_with fail
      refine HT.out.mono ?_
      rintro e w' ⟨rfl, rfl⟩
      go_wp2_with fail
      go_ret3
      exact ⟨_, rfl, World.ownsRow_nil _ _ _ _, Below.refl _ _⟩
    · by_cases hshort : bs.length < N + n
      · have e1 : tblE bs = 3 := by simp [tblE, hE, ← hnn, ← hNN, hlong, hshort]
        have e2 : tblP bs = [] := by simp [tblP, e1]
        have e3 : tblN bs = 0 := by simp [tblN, e1]
        rw [e1, e2, e3]
        clear e1 e2 e3 hnn hNN
        go_enter Tryd.func26, Tryd.ntmps26
        go_wp2_with fail
        refine HT.out.mono ?_
        rintro e w' ⟨rfl, rfl⟩
        go_wp2_with fail
        go_ret3
        exact ⟨_, rfl, World.ownsRow_nil _ _ _ _, Below.refl _ _⟩
      · have e1 : tblE bs = 0 := by simp [tblE, hE, ← hnn, ← hNN, hlong, hshort]
        have e2 : tblP bs = (bs.drop N).take n := by simp [tblP, e1, ← hnn, ← hNN]
        have e3 : tblN bs = N + n := by simp [tblN, e1, ← hnn, ← hNN]
        rw [e1, e2, e3]
        clear e1 e2 e3 hnn hNN
        obtain ⟨g, o, rfl, hg, _⟩ := hr.addr (by omega)
        have hpl : ((bs.drop N).take n).length = n := by simp; omega
        have r4 : RB w (some ⟨g, o + N, none⟩) ((bs.drop N).take n) := (hr.drop N).take n
        have r5 := r4.alloc (.cells (mem (bv [])) 5)
        by_cases hcN : c = N
        · obtain rfl : n = 0 := by omega
          subst hcN
          go_enter Tryd.func26, Tryd.ntmps26
          go_wp2_with fail
          refine HT.out.mono ?_
          rintro e w1 ⟨rfl, rfl⟩
          have own0 : (w1.alloc (.cells #[] 5)).ownsRow w1.heap.size 5 1 (.slice (some ⟨w1.heap.size, 0, none⟩) 0 0) 0 (bv []) := own_new w1 [] 5 (by decide)
          go_wp2_with fail
          go_ret3
          refine ⟨.slice (some ⟨w1.heap.size, 0, none⟩) 0 0, by simp, ?_, below_alloc w1 _⟩
          have e : ((bs.drop c).take 0) = [] := by simp
          rw [e]
          exact own0
        · go_enter Tryd.func26, Tryd.ntmps26
          go_wp2_with fail
          refine HT.out.mono ?_
          rintro e w1 ⟨rfl, rfl⟩
          have own0 : (w1.alloc (.cells #[] 5)).ownsRow w1.heap.size 5 1 (.slice (some ⟨w1.heap.size, 0, none⟩) 0 0) 0 (bv []) := own_new w1 [] 5 (by decide)
          have HM := Lib.hid (show ((bs.drop N).take n).length = N + n - N by omega)
          have HM2 := Lib.hid (show N + n - N = n by omega)
          go_wp2_with (at_builtin; refine wpList_append_bytes rfl (.tmp 25) (.tmp 31) rfl w1.heap.size (.slice (some ⟨w1.heap.size, 0, none⟩) 0 0) [] ((bs.drop N).take n) 0 (N + n - N) (c - N) (some ⟨g, o + N, none⟩) rfl rfl own0 r5 HM.out (fun h => by cases h) rfl (by omega) (by simp) ?_; intro v2 w2 own2 hg2)
          go_ret3
          refine ⟨v2, by simp, ?_, (below_alloc w1 _).grown hg2 (by simp) (fun q hq => (own0.lt q hq).1)⟩
          rw [Nat.zero_add, List.nil_append, HM2.out] at own2
          rw [hpl]
          exact own2
  · have e1 : tblE bs = takeE bs := by simp [tblE, hE]
    have e2 : tblP bs = [] := by simp [tblP, e1, hE]
    have e3 : tblN bs = 0 := by simp [tblN, e1, hE]
    rw [e1, e2, e3]
    clear e1 e2 e3
    have e4 : ((takeE bs : Int) == 0) = false := beq_eq_false_iff_ne.2 (by omega)
    go_enter Tryd.func26, Tryd.ntmps26
    go_wp2_with fail
    refine htn.mono ?_
    rintro e w' ⟨rfl, rfl⟩
    go_wp2_with fail
    go_ret3
    exact ⟨_, rfl, World.ownsRow_nil _ _ _ _, Below.refl _ _⟩
end Go.Proofs.YtocjfiahkdpicaaDoor
