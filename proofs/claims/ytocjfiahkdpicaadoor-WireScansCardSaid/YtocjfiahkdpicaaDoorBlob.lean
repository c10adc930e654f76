/- wire.Blob, wire.TakeBlob: a blob in bytes, and the blob at the front. -/
import Derived.Test.YtocjfiahkdpicaaDoorNum
import Derived.Test.YtocjfiahkdpicaaDoorTakeNum
set_option linter.unusedVariables false
set_option linter.unusedSimpArgs false
namespace Go.Proofs.YtocjfiahkdpicaaDoor
open Go.RowKit

set_option maxRecDepth 100000 in
set_option maxHeartbeats 400000 in
theorem blob_long (A : Option Addr) (n c : Nat) (w : World) (h : 65536 < n) (hn : n ≤ 140737488351232) :
    Calls Tryd.prog 23 #[.slice A n c] w fun e w' => e = .returned (.tuple #[.slice none 0 0, .iface 27 (.int .i64 2)]) ∧ w' = w := by
  go_enter Tryd.func23, Tryd.ntmps23
  go_wp2_with fail
  go_ret2
  exact ⟨rfl, rfl⟩

/-- what was just made is owned -/
theorem own_new (w : World) (bs : List UInt8) (t : TypeId) (hm : bs.length ≤ maxLen) : (w.alloc (.cells (mem (bv bs)) t)).ownsRow w.heap.size t 1 (.slice (some ⟨w.heap.size, 0, none⟩) bs.length bs.length) bs.length (bv bs) :=
  ⟨by simp, .inr ⟨w.heap.size, bs.length, mem (bv bs), rfl, Nat.le_refl _, heap_alloc_new _ _, Nat.le_refl _, hm, by simp, by rw [mem_toList, List.take_of_length_le (by simp)]⟩⟩

/-- a blob's bytes -/
def blob (p : List UInt8) : List UInt8 := numb p.length ++ p

set_option maxRecDepth 100000 in
set_option maxHeartbeats 1000000 in
theorem blob_any (A : Option Addr) (len c : Nat) (bs : List UInt8) (w : World) (hl : bs.length = len) (h : len ≤ 65536) (hr : RB w A bs) (hA : A = none → c = 0) :
    Calls Tryd.prog 23 #[.slice A len c] w fun e w' => ∃ v, e = .returned (.tuple #[v, .nilIface]) ∧ w'.ownsRow w.heap.size 5 1 v (blob bs).length (bv (blob bs)) ∧ Below w.heap.size w w' := by
  subst hl
  have hd := digs_len8 bs.length (by omega)
  have hnl := numb_length bs.length
  go_enter Tryd.func23, Tryd.ntmps23
  go_wp2_with fail
  refine (num_any bs.length w (Lib.hid (by omega))).mono ?_
  obtain ⟨nb, hnb⟩ : ∃ nb, nb = numb bs.length := ⟨_, rfl⟩
  rw [← hnb] at hnl ⊢
  have HNB := Lib.hid hnb
  clear hnb
  rintro e w1 ⟨rfl, hw1⟩
  have b1 : Below w.heap.size w w1 := by rw [hw1]; exact below_alloc _ _
  have o1 : w1.ownsRow w.heap.size 5 1 (.slice (some ⟨w.heap.size, 0, none⟩) nb.length nb.length) nb.length (bv nb) := by rw [hw1]; exact own_new _ _ _ (by unfold maxLen; omega)
  have r1 := hr.below b1
  have HNL := Lib.hid hnl
  clear hw1 hnl hd
  have hlen : nb.length + bs.length ≤ 140737488355328 := by have := HNL.out; have := digs_len8 bs.length (by omega); omega
  go_wp2_with (at_builtin; refine wpList_append_bytes rfl _ _ rfl w.heap.size (.slice (some ⟨w.heap.size, 0, none⟩) nb.length nb.length) nb bs nb.length bs.length c A rfl rfl o1 r1 rfl hA rfl hlen b1.size ?_; intro v' w2 hown hg)
  have b2 : Below w.heap.size w w2 := b1.grown hg b1.size (fun k hk => by simp [Value.ownBlock] at hk; omega)
  obtain ⟨B, c', rfl, _⟩ := own_shape hown
  clear hg b1 r1 o1
  go_wp2_with fail
  go_ret2
  have e1 : blob bs = nb ++ bs := by rw [blob, ← HNB.out]
  refine ⟨_, rfl, ?_, b2⟩
  rw [e1, List.length_append]
  exact hown

/-- what taking a blob tells -/
def tblE (b : List UInt8) : Nat := if takeE b ≠ 0 then takeE b else if 65536 < takeV b then 2 else if b.length < takeN b + takeV b then 3 else 0
def tblP (b : List UInt8) : List UInt8 := if tblE b = 0 then (b.drop (takeN b)).take (takeV b) else []
def tblN (b : List UInt8) : Nat := if tblE b = 0 then takeN b + takeV b else 0
theorem takeN_le (b : List UInt8) (h : takeE b = 0) : 1 ≤ takeN b ∧ takeN b ≤ b.length ∧ takeN b ≤ 9 := by
  unfold takeN
  rw [if_pos h]
  unfold takeE at h
  split at h
  · cases h
  · split at h
    · cases h
    · split at h
      · cases h
      · omega

set_option maxRecDepth 100000 in
set_option maxHeartbeats 1000000 in
theorem takeblob_any (A : Option Addr) (len c : Nat) (bs : List UInt8) (w : World) (hl : bs.length = len) (hc : len ≤ c) (hn : len ≤ 140737488351232) (hr : RB w A bs) :
    Calls Tryd.prog 24 #[.slice A len c] w fun e w' => ∃ v, e = .returned (.tuple #[v, .int .i64 (tblN bs), errV (tblE bs)]) ∧
      w'.ownsRow w.heap.size 5 1 v (tblP bs).length (bv (tblP bs)) ∧ Below w.heap.size w w' := by
  subst hl
  have htn := takenum_any A bs.length c bs w rfl hc hn hr
  by_cases hE : takeE bs = 0
  · rw [hE] at htn
    have hN := takeN_le bs hE
    obtain ⟨n, hnn⟩ : ∃ n, n = takeV bs := ⟨_, rfl⟩
    obtain ⟨N, hNN⟩ : ∃ N, N = takeN bs := ⟨_, rfl⟩
    rw [← hnn, ← hNN] at htn
    rw [← hNN] at hN
    have HT := Lib.hid htn
    clear htn
    by_cases hlong : 65536 < n
    · have e1 : tblE bs = 2 := by simp [tblE, hE, ← hnn, hlong]
      have e2 : tblP bs = [] := by simp [tblP, e1]
      have e3 : tblN bs = 0 := by simp [tblN, e1]
      rw [e1, e2, e3, errV_pos 2 (by decide)]
      clear e1 e2 e3 hnn hNN
      go_enter Tryd.func24, Tryd.ntmps24
      go_wp2_with fail
      refine HT.out.mono ?_
      rw [errV_zero]
      rintro e w' ⟨rfl, rfl⟩
      go_wp2_with fail
      go_ret3
      exact ⟨_, rfl, World.ownsRow_nil _ _ _ _, Below.refl _ _⟩
    · by_cases hshort : bs.length < N + n
      · have e1 : tblE bs = 3 := by simp [tblE, hE, ← hnn, ← hNN, hlong, hshort]
        have e2 : tblP bs = [] := by simp [tblP, e1]
        have e3 : tblN bs = 0 := by simp [tblN, e1]
        rw [e1, e2, e3, errV_pos 3 (by decide)]
        clear e1 e2 e3 hnn hNN
        go_enter Tryd.func24, Tryd.ntmps24
        go_wp2_with fail
        refine HT.out.mono ?_
        rw [errV_zero]
        rintro e w' ⟨rfl, rfl⟩
        go_wp2_with fail
        go_ret3
        exact ⟨_, rfl, World.ownsRow_nil _ _ _ _, Below.refl _ _⟩
      · have e1 : tblE bs = 0 := by simp [tblE, hE, ← hnn, ← hNN, hlong, hshort]
        have e2 : tblP bs = (bs.drop N).take n := by simp [tblP, e1, ← hnn, ← hNN]
        have e3 : tblN bs = N + n := by simp [tblN, e1, ← hnn, ← hNN]
        rw [e1, e2, e3, errV_zero]
        clear e1 e2 e3 hnn hNN
        obtain ⟨g, o, rfl, hg, _⟩ := hr.addr (by omega)
        have hpl : ((bs.drop N).take n).length = n := by simp; omega
        by_cases hcN : c = N
        · obtain rfl : n = 0 := by omega
          subst hcN
          go_enter Tryd.func24, Tryd.ntmps24
          go_wp2_with fail
          refine HT.out.mono ?_
          rw [errV_zero]
          rintro e w1 ⟨rfl, rfl⟩
          go_wp2_with fail
          go_ret3
          refine ⟨_, rfl, ?_, Below.refl _ _⟩
          have e : ((bs.drop c).take 0) = [] := by simp
          rw [e]
          exact World.ownsRow_nil _ _ _ _
        · have r4 : RB w (some ⟨g, o + N, none⟩) ((bs.drop N).take n) := (hr.drop N).take n
          go_enter Tryd.func24, Tryd.ntmps24
          go_wp2_with fail
          refine HT.out.mono ?_
          rw [errV_zero]
          rintro e w1 ⟨rfl, rfl⟩
          have hm : ((bs.drop N).take n).length = N + n - N := by omega
          have hm2 : N + n - N = n := by omega
          have HM := Lib.hid hm
          have HM2 := Lib.hid hm2
          clear hm hm2
          go_wp2_with (at_builtin; refine wpList_append_bytes rfl _ _ rfl w1.heap.size (.slice none 0 0) [] ((bs.drop N).take n) 0 (N + n - N) (c - N) (some ⟨g, o + N, none⟩) rfl rfl (World.ownsRow_nil _ _ _ _) r4 HM.out (by simp) rfl (by omega) (Nat.le_refl _) ?_; intro v' w2 hown hgr)
          have b5 : Below w1.heap.size w1 w2 := (Below.refl _ _).grown hgr (Nat.le_refl _) (fun k hk => by cases hk)
          rw [Nat.zero_add, List.nil_append, HM2.out] at hown
          clear hgr
          go_wp2_with fail
          go_ret3
          refine ⟨v', by simp, ?_, b5⟩
          rw [hpl]
          exact hown
  · have e1 : tblE bs = takeE bs := by simp [tblE, hE]
    have e2 : tblP bs = [] := by simp [tblP, e1, hE]
    have e3 : tblN bs = 0 := by simp [tblN, e1, hE]
    rw [e1, e2, e3, errV_pos _ hE]
    rw [errV_pos _ hE] at htn
    have HT := Lib.hid htn
    clear htn
    obtain ⟨E, hE2⟩ : ∃ E, E = takeE bs := ⟨_, rfl⟩
    rw [← hE2] at HT hE ⊢
    clear e1 e2 e3 hE2
    go_enter Tryd.func24, Tryd.ntmps24
    go_wp2_with fail
    refine HT.out.mono ?_
    rintro e w' ⟨rfl, rfl⟩
    go_wp2_with fail
    go_ret3
    exact ⟨_, rfl, World.ownsRow_nil _ _ _ _, Below.refl _ _⟩
end Go.Proofs.YtocjfiahkdpicaaDoor
