/- muntinlaw01.WireBack on four of its ways. Printed by this project's own back.py. -/
import Derived.Test.YtocjfiahkdpicaaBackHead
set_option linter.unusedVariables false
set_option linter.unusedSimpArgs false
namespace Go.Proofs.Ytocjfiahkdpicaa
open Go.RowKit

set_option maxRecDepth 100000 in
set_option maxHeartbeats 2000000 in
theorem wireBack_1100 (n : Nat) (bn : Hid (n < 9223372036854775808)) (A : Option Addr) (c : Nat) (ps : List UInt8) (B : Option Addr) (cb : Nat) (bs : List UInt8) (w : World) (hA : A = none → c = 0) (hB : B = none → cb = 0) (hcb : bs.length ≤ cb) (hncb : cb ≤ 140737488351232) (hbig : bs.length ≤ 1048576) (hpbig : ps.length ≤ 1048576) (hrp : RB w A ps) (hrb : RB w B bs)
    (hp : ps.length ≤ 65536) (ht : Hid (takeE bs ≠ 0)) (hu : Hid (tblE bs ≠ 0)) :
    Calls Try.prog 7 #[.int .i64 n, .slice A ps.length c, .slice B bs.length cb] w fun e w' => e = .returned (.bool true) ∧ Below w.heap.size w w' := by
  have hpd : decide ((ps.length : Int) ≤ 65536) = true := decide_eq_true (by omega)
  go_enter Try.func7, Try.ntmps7
  go_wp2_with fail
  refine (num_any n _ (Lib.hid (by have := bn.out; omega))).mono ?_
  rintro e w1 ⟨rfl, hw1⟩
  have b1 : Below w.heap.size w w1 := by rw [hw1]; exact below_alloc _ _
  have r1 : RB w1 (some ⟨w.heap.size, 0, none⟩) (numb n) := by rw [hw1]; exact RB.new0 _ _ _
  have r1b := hrb.below b1
  have r1p := hrp.below b1
  obtain ⟨nb, hnb⟩ : ∃ nb, nb = numb n := ⟨_, rfl⟩
  rw [← hnb] at r1 ⊢
  have HNB := Lib.hid hnb
  have hnl : nb.length ≤ 9 := by rw [hnb, numb_length]; have := digs_len8 n (by have := bn.out; omega); omega
  have hnl0 : 1 ≤ nb.length := by rw [hnb, numb_length]; omega
  clear hw1 hnb
  go_wp2_with (first
    | (at_builtin; refine wpList_append_bytes rfl (.tmp 41) (.tmp 42) rfl w1.heap.size (.slice (some ⟨w1.heap.size, 0, none⟩) 0 0) [] nb 0 nb.length nb.length (some ⟨w.heap.size, 0, none⟩) rfl rfl (own_new _ [] 5 (by decide)) (r1.alloc _) rfl (fun h => by cases h) rfl (by omega) (by simp) ?_; intro va1 wa1 owa1 hga1)
    | (at_builtin; refine wpList_append_bytes rfl (.tmp 43) (.tmp 44) rfl w1.heap.size va1 ([] ++ nb) bs (0 + nb.length) bs.length cb B rfl rfl owa1 (r1b.below (below_app0 hga1)) rfl hB (by simp) (by simp; omega) (below_app0 hga1).size ?_; intro vb1 wb1 owb1 hgb1))
  have b2 : Below w.heap.size w wb1 := below_app b1 owa1 hga1 hgb1 b1.size
  obtain ⟨S1, k1, rfl, hk1, hS1⟩ := own_shape owb1
  have r2 := RB.own owb1
  clear owa1 hga1 hgb1 owb1 b1
  refine (takenum_any S1 _ k1 _ wb1 (by simp) hk1 (by simp; omega) r2).mono ?_
  obtain ⟨h1, h2, h3⟩ := take_num n bn.out bs
  rw [← HNB.out] at h1 h2 h3
  rw [List.nil_append, h1, h2, h3, errV_zero]
  clear h1 h2 h3
  rintro e w2 ⟨rfl, hw2⟩
  obtain rfl := hw2
  have r2b := hrb.below b2
  have r2p := hrp.below b2
  clear r2 r1b r1p hk1 r1
  go_wp2_with fail
  refine (blob_any A _ c ps _ rfl hp r2p hA).mono ?_
  obtain ⟨pb, hpb⟩ : ∃ pb, pb = blob ps := ⟨_, rfl⟩
  rw [← hpb]
  have HPB := Lib.hid hpb
  have hpl : pb.length ≤ 65545 := by rw [hpb, blob, List.length_append, numb_length]; have := digs_len8 ps.length (by omega); omega
  clear hpb
  rintro e w3 ⟨v3, rfl, ow3, b3⟩
  have b4 := below_then b2 b2.size b3
  obtain ⟨S3, k3, rfl, hk3, hS3⟩ := own_shape ow3
  have r3 := RB.own ow3
  have r3b := hrb.below b4
  have r3p := hrp.below b4
  clear ow3 b3 b2 r2b r2p
  go_wp2_with (first
    | (at_builtin; refine wpList_append_bytes rfl (.tmp 85) (.tmp 86) rfl w3.heap.size (.slice (some ⟨w3.heap.size, 0, none⟩) 0 0) [] pb 0 pb.length k3 S3 rfl rfl (own_new _ [] 5 (by decide)) (r3.alloc _) rfl hS3 rfl (by omega) (by simp) ?_; intro va2 wa2 owa2 hga2)
    | (at_builtin; refine wpList_append_bytes rfl (.tmp 87) (.tmp 88) rfl w3.heap.size va2 ([] ++ pb) bs (0 + pb.length) bs.length cb B rfl rfl owa2 (r3b.below (below_app0 hga2)) rfl hB (by simp) (by simp; omega) (below_app0 hga2).size ?_; intro vb2 wb2 owb2 hgb2))
  have b5 : Below w.heap.size w wb2 := below_app b4 owa2 hga2 hgb2 b4.size
  obtain ⟨S4, k4, rfl, hk4, hS4⟩ := own_shape owb2
  have r4 := RB.own owb2
  clear owa2 hga2 hgb2 owb2 b4 r3b r3p
  refine (takeblob_any S4 _ k4 _ wb2 (by simp) hk4 (by simp; omega) r4).mono ?_
  obtain ⟨h1, h2, h3⟩ := take_blob ps hp bs
  rw [← HPB.out] at h1 h2 h3
  rw [List.nil_append, h1, h2, h3, errV_zero]
  clear h1 h2 h3
  rintro e w5 ⟨v5, rfl, ow5, b6⟩
  have b7 := below_then b5 b5.size b6
  obtain ⟨S5, k5, rfl, _⟩ := own_shape ow5
  have r5 := RB.own ow5
  have r7b := hrb.below b7
  have r7p := hrp.below b7
  clear ow5 b6 b5 r4
  have s1 := run_str w5 S5 ps k5 r5 9 Try.underlying9
  have s2 := run_str w5 A ps c r7p 9 Try.underlying9
  go_wp2_with fail
  refine (takenum_any B _ cb bs w5 rfl hcb (by omega) r7b).mono ?_
  rw [errV_pos _ ht.out]
  obtain ⟨E3, hE3⟩ : ∃ E, E = takeE bs := ⟨_, rfl⟩
  obtain ⟨V3, hV3⟩ : ∃ E, E = takeV bs := ⟨_, rfl⟩
  obtain ⟨N3, hN3⟩ : ∃ E, E = takeN bs := ⟨_, rfl⟩
  rw [← hE3, ← hV3, ← hN3]
  clear hE3 hV3 hN3
  rintro e w6 ⟨rfl, hw6⟩
  obtain rfl := hw6
  have b10 := b7
  have r10b := r7b
  have r10p := r7p
  clear b7 r7b r7p r5 s1 s2
  go_wp2_with fail
  refine (takeblob_any B _ cb bs _ rfl hcb (by omega) r10b).mono ?_
  rw [errV_pos _ hu.out]
  obtain ⟨E4, hE4⟩ : ∃ E, E = tblE bs := ⟨_, rfl⟩
  obtain ⟨P4, hP4⟩ : ∃ E, E = tblP bs := ⟨_, rfl⟩
  obtain ⟨N4, hN4⟩ : ∃ E, E = tblN bs := ⟨_, rfl⟩
  rw [← hE4, ← hP4, ← hN4]
  clear hE4 hP4 hN4
  rintro e w11 ⟨v11, rfl, ow11, b11⟩
  have b12 := below_then b10 b10.size b11
  obtain ⟨S11, k11, rfl, hk11, hS11⟩ := own_shape ow11
  clear ow11 b11 b10 r10b r10p
  go_wp2_with fail
  go_ret
  exact ⟨rfl, b12⟩

set_option maxRecDepth 100000 in
set_option maxHeartbeats 2000000 in
theorem wireBack_1101 (n : Nat) (bn : Hid (n < 9223372036854775808)) (A : Option Addr) (c : Nat) (ps : List UInt8) (B : Option Addr) (cb : Nat) (bs : List UInt8) (w : World) (hA : A = none → c = 0) (hB : B = none → cb = 0) (hcb : bs.length ≤ cb) (hncb : cb ≤ 140737488351232) (hbig : bs.length ≤ 1048576) (hpbig : ps.length ≤ 1048576) (hrp : RB w A ps) (hrb : RB w B bs)
    (hp : ps.length ≤ 65536) (ht : Hid (takeE bs ≠ 0)) (hu : Hid (tblE bs = 0)) :
    Calls Try.prog 7 #[.int .i64 n, .slice A ps.length c, .slice B bs.length cb] w fun e w' => e = .returned (.bool true) ∧ Below w.heap.size w w' := by
  have hpd : decide ((ps.length : Int) ≤ 65536) = true := decide_eq_true (by omega)
  go_enter Try.func7, Try.ntmps7
  go_wp2_with fail
  refine (num_any n _ (Lib.hid (by have := bn.out; omega))).mono ?_
  rintro e w1 ⟨rfl, hw1⟩
  have b1 : Below w.heap.size w w1 := by rw [hw1]; exact below_alloc _ _
  have r1 : RB w1 (some ⟨w.heap.size, 0, none⟩) (numb n) := by rw [hw1]; exact RB.new0 _ _ _
  have r1b := hrb.below b1
  have r1p := hrp.below b1
  obtain ⟨nb, hnb⟩ : ∃ nb, nb = numb n := ⟨_, rfl⟩
  rw [← hnb] at r1 ⊢
  have HNB := Lib.hid hnb
  have hnl : nb.length ≤ 9 := by rw [hnb, numb_length]; have := digs_len8 n (by have := bn.out; omega); omega
  have hnl0 : 1 ≤ nb.length := by rw [hnb, numb_length]; omega
  clear hw1 hnb
  go_wp2_with (first
    | (at_builtin; refine wpList_append_bytes rfl (.tmp 41) (.tmp 42) rfl w1.heap.size (.slice (some ⟨w1.heap.size, 0, none⟩) 0 0) [] nb 0 nb.length nb.length (some ⟨w.heap.size, 0, none⟩) rfl rfl (own_new _ [] 5 (by decide)) (r1.alloc _) rfl (fun h => by cases h) rfl (by omega) (by simp) ?_; intro va1 wa1 owa1 hga1)
    | (at_builtin; refine wpList_append_bytes rfl (.tmp 43) (.tmp 44) rfl w1.heap.size va1 ([] ++ nb) bs (0 + nb.length) bs.length cb B rfl rfl owa1 (r1b.below (below_app0 hga1)) rfl hB (by simp) (by simp; omega) (below_app0 hga1).size ?_; intro vb1 wb1 owb1 hgb1))
  have b2 : Below w.heap.size w wb1 := below_app b1 owa1 hga1 hgb1 b1.size
  obtain ⟨S1, k1, rfl, hk1, hS1⟩ := own_shape owb1
  have r2 := RB.own owb1
  clear owa1 hga1 hgb1 owb1 b1
  refine (takenum_any S1 _ k1 _ wb1 (by simp) hk1 (by simp; omega) r2).mono ?_
  obtain ⟨h1, h2, h3⟩ := take_num n bn.out bs
  rw [← HNB.out] at h1 h2 h3
  rw [List.nil_append, h1, h2, h3, errV_zero]
  clear h1 h2 h3
  rintro e w2 ⟨rfl, hw2⟩
  obtain rfl := hw2
  have r2b := hrb.below b2
  have r2p := hrp.below b2
  clear r2 r1b r1p hk1 r1
  go_wp2_with fail
  refine (blob_any A _ c ps _ rfl hp r2p hA).mono ?_
  obtain ⟨pb, hpb⟩ : ∃ pb, pb = blob ps := ⟨_, rfl⟩
  rw [← hpb]
  have HPB := Lib.hid hpb
  have hpl : pb.length ≤ 65545 := by rw [hpb, blob, List.length_append, numb_length]; have := digs_len8 ps.length (by omega); omega
  clear hpb
  rintro e w3 ⟨v3, rfl, ow3, b3⟩
  have b4 := below_then b2 b2.size b3
  obtain ⟨S3, k3, rfl, hk3, hS3⟩ := own_shape ow3
  have r3 := RB.own ow3
  have r3b := hrb.below b4
  have r3p := hrp.below b4
  clear ow3 b3 b2 r2b r2p
  go_wp2_with (first
    | (at_builtin; refine wpList_append_bytes rfl (.tmp 85) (.tmp 86) rfl w3.heap.size (.slice (some ⟨w3.heap.size, 0, none⟩) 0 0) [] pb 0 pb.length k3 S3 rfl rfl (own_new _ [] 5 (by decide)) (r3.alloc _) rfl hS3 rfl (by omega) (by simp) ?_; intro va2 wa2 owa2 hga2)
    | (at_builtin; refine wpList_append_bytes rfl (.tmp 87) (.tmp 88) rfl w3.heap.size va2 ([] ++ pb) bs (0 + pb.length) bs.length cb B rfl rfl owa2 (r3b.below (below_app0 hga2)) rfl hB (by simp) (by simp; omega) (below_app0 hga2).size ?_; intro vb2 wb2 owb2 hgb2))
  have b5 : Below w.heap.size w wb2 := below_app b4 owa2 hga2 hgb2 b4.size
  obtain ⟨S4, k4, rfl, hk4, hS4⟩ := own_shape owb2
  have r4 := RB.own owb2
  clear owa2 hga2 hgb2 owb2 b4 r3b r3p
  refine (takeblob_any S4 _ k4 _ wb2 (by simp) hk4 (by simp; omega) r4).mono ?_
  obtain ⟨h1, h2, h3⟩ := take_blob ps hp bs
  rw [← HPB.out] at h1 h2 h3
  rw [List.nil_append, h1, h2, h3, errV_zero]
  clear h1 h2 h3
  rintro e w5 ⟨v5, rfl, ow5, b6⟩
  have b7 := below_then b5 b5.size b6
  obtain ⟨S5, k5, rfl, _⟩ := own_shape ow5
  have r5 := RB.own ow5
  have r7b := hrb.below b7
  have r7p := hrp.below b7
  clear ow5 b6 b5 r4
  have s1 := run_str w5 S5 ps k5 r5 9 Try.underlying9
  have s2 := run_str w5 A ps c r7p 9 Try.underlying9
  go_wp2_with fail
  refine (takenum_any B _ cb bs w5 rfl hcb (by omega) r7b).mono ?_
  rw [errV_pos _ ht.out]
  obtain ⟨E3, hE3⟩ : ∃ E, E = takeE bs := ⟨_, rfl⟩
  obtain ⟨V3, hV3⟩ : ∃ E, E = takeV bs := ⟨_, rfl⟩
  obtain ⟨N3, hN3⟩ : ∃ E, E = takeN bs := ⟨_, rfl⟩
  rw [← hE3, ← hV3, ← hN3]
  clear hE3 hV3 hN3
  rintro e w6 ⟨rfl, hw6⟩
  obtain rfl := hw6
  have b10 := b7
  have r10b := r7b
  have r10p := r7p
  clear b7 r7b r7p r5 s1 s2
  go_wp2_with fail
  refine (takeblob_any B _ cb bs _ rfl hcb (by omega) r10b).mono ?_
  obtain ⟨u1, u2, u3, u4⟩ := blob_taken bs hu.out
  rw [hu.out, errV_zero]
  obtain ⟨Q, hQ⟩ : ∃ Q, Q = tblP bs := ⟨_, rfl⟩
  obtain ⟨M, hM⟩ : ∃ M, M = tblN bs := ⟨_, rfl⟩
  rw [← hQ] at u1 u2
  rw [← hM] at u1 u3 u4
  rw [← hQ, ← hM]
  clear hQ hM
  have UB := Lib.hid u1
  clear u1
  rintro e w11 ⟨v11, rfl, ow11, b11⟩
  have b12 := below_then b10 b10.size b11
  obtain ⟨S11, k11, rfl, hk11, hS11⟩ := own_shape ow11
  have r11 := RB.own ow11
  have r12b := hrb.below b12
  clear ow11 b11 b10 r10b r10p
  obtain ⟨gb, ob, rfl, _, _⟩ := hrb.addr (by omega)
  go_wp2_with fail
  refine (blob_any S11 _ k11 Q w11 rfl u2 r11 hS11).mono ?_
  rintro e w13 ⟨v13, rfl, ow13, b13⟩
  have b14 := below_then b12 b12.size b13
  obtain ⟨S13, k13, rfl, _⟩ := own_shape ow13
  have r13 := RB.own ow13
  have r14b := hrb.below b14
  clear ow13 b13 b12 r12b r11
  have hcb0 : ¬ cb = 0 := by omega
  have hM1 : (1 : Int) ≤ (M : Int) := by omega
  have hM2 : (M : Int) ≤ (bs.length : Int) := by omega
  have hM3 : (M : Int) ≤ (cb : Int) := by omega
  have hM4 : decide ((M : Int) < 1) = false := decide_eq_false (by omega)
  have hM5 : decide ((bs.length : Int) < (M : Int)) = false := decide_eq_false (by omega)
  have s5 := fun m => run_str (w13.drewN m) _ (blob Q) k13 (r13.drewN m) 9 Try.underlying9
  have s6 := fun m => run_str (w13.drewN m) (some ⟨gb, ob, none⟩) (bs.take M) cb ((r14b.take M).drewN m) 9 Try.underlying9
  have hMl : (bs.take M).length = M := by simp; omega
  rw [hMl, ← UB.out] at s6
  have hbq : (blob Q == blob Q) = true := by simp
  go_wp2_with fail
  go_quiet (fail)
  have b15 := below_drewN b14 nq
  go_wp2_with fail
  go_ret
  exact ⟨rfl, b15⟩

set_option maxRecDepth 100000 in
set_option maxHeartbeats 2000000 in
theorem wireBack_1110 (n : Nat) (bn : Hid (n < 9223372036854775808)) (A : Option Addr) (c : Nat) (ps : List UInt8) (B : Option Addr) (cb : Nat) (bs : List UInt8) (w : World) (hA : A = none → c = 0) (hB : B = none → cb = 0) (hcb : bs.length ≤ cb) (hncb : cb ≤ 140737488351232) (hbig : bs.length ≤ 1048576) (hpbig : ps.length ≤ 1048576) (hrp : RB w A ps) (hrb : RB w B bs)
    (hp : ps.length ≤ 65536) (ht : Hid (takeE bs = 0)) (hu : Hid (tblE bs ≠ 0)) :
    Calls Try.prog 7 #[.int .i64 n, .slice A ps.length c, .slice B bs.length cb] w fun e w' => e = .returned (.bool true) ∧ Below w.heap.size w w' := by
  have hpd : decide ((ps.length : Int) ≤ 65536) = true := decide_eq_true (by omega)
  go_enter Try.func7, Try.ntmps7
  go_wp2_with fail
  refine (num_any n _ (Lib.hid (by have := bn.out; omega))).mono ?_
  rintro e w1 ⟨rfl, hw1⟩
  have b1 : Below w.heap.size w w1 := by rw [hw1]; exact below_alloc _ _
  have r1 : RB w1 (some ⟨w.heap.size, 0, none⟩) (numb n) := by rw [hw1]; exact RB.new0 _ _ _
  have r1b := hrb.below b1
  have r1p := hrp.below b1
  obtain ⟨nb, hnb⟩ : ∃ nb, nb = numb n := ⟨_, rfl⟩
  rw [← hnb] at r1 ⊢
  have HNB := Lib.hid hnb
  have hnl : nb.length ≤ 9 := by rw [hnb, numb_length]; have := digs_len8 n (by have := bn.out; omega); omega
  have hnl0 : 1 ≤ nb.length := by rw [hnb, numb_length]; omega
  clear hw1 hnb
  go_wp2_with (first
    | (at_builtin; refine wpList_append_bytes rfl (.tmp 41) (.tmp 42) rfl w1.heap.size (.slice (some ⟨w1.heap.size, 0, none⟩) 0 0) [] nb 0 nb.length nb.length (some ⟨w.heap.size, 0, none⟩) rfl rfl (own_new _ [] 5 (by decide)) (r1.alloc _) rfl (fun h => by cases h) rfl (by omega) (by simp) ?_; intro va1 wa1 owa1 hga1)
    | (at_builtin; refine wpList_append_bytes rfl (.tmp 43) (.tmp 44) rfl w1.heap.size va1 ([] ++ nb) bs (0 + nb.length) bs.length cb B rfl rfl owa1 (r1b.below (below_app0 hga1)) rfl hB (by simp) (by simp; omega) (below_app0 hga1).size ?_; intro vb1 wb1 owb1 hgb1))
  have b2 : Below w.heap.size w wb1 := below_app b1 owa1 hga1 hgb1 b1.size
  obtain ⟨S1, k1, rfl, hk1, hS1⟩ := own_shape owb1
  have r2 := RB.own owb1
  clear owa1 hga1 hgb1 owb1 b1
  refine (takenum_any S1 _ k1 _ wb1 (by simp) hk1 (by simp; omega) r2).mono ?_
  obtain ⟨h1, h2, h3⟩ := take_num n bn.out bs
  rw [← HNB.out] at h1 h2 h3
  rw [List.nil_append, h1, h2, h3, errV_zero]
  clear h1 h2 h3
  rintro e w2 ⟨rfl, hw2⟩
  obtain rfl := hw2
  have r2b := hrb.below b2
  have r2p := hrp.below b2
  clear r2 r1b r1p hk1 r1
  go_wp2_with fail
  refine (blob_any A _ c ps _ rfl hp r2p hA).mono ?_
  obtain ⟨pb, hpb⟩ : ∃ pb, pb = blob ps := ⟨_, rfl⟩
  rw [← hpb]
  have HPB := Lib.hid hpb
  have hpl : pb.length ≤ 65545 := by rw [hpb, blob, List.length_append, numb_length]; have := digs_len8 ps.length (by omega); omega
  clear hpb
  rintro e w3 ⟨v3, rfl, ow3, b3⟩
  have b4 := below_then b2 b2.size b3
  obtain ⟨S3, k3, rfl, hk3, hS3⟩ := own_shape ow3
  have r3 := RB.own ow3
  have r3b := hrb.below b4
  have r3p := hrp.below b4
  clear ow3 b3 b2 r2b r2p
  go_wp2_with (first
    | (at_builtin; refine wpList_append_bytes rfl (.tmp 85) (.tmp 86) rfl w3.heap.size (.slice (some ⟨w3.heap.size, 0, none⟩) 0 0) [] pb 0 pb.length k3 S3 rfl rfl (own_new _ [] 5 (by decide)) (r3.alloc _) rfl hS3 rfl (by omega) (by simp) ?_; intro va2 wa2 owa2 hga2)
    | (at_builtin; refine wpList_append_bytes rfl (.tmp 87) (.tmp 88) rfl w3.heap.size va2 ([] ++ pb) bs (0 + pb.length) bs.length cb B rfl rfl owa2 (r3b.below (below_app0 hga2)) rfl hB (by simp) (by simp; omega) (below_app0 hga2).size ?_; intro vb2 wb2 owb2 hgb2))
  have b5 : Below w.heap.size w wb2 := below_app b4 owa2 hga2 hgb2 b4.size
  obtain ⟨S4, k4, rfl, hk4, hS4⟩ := own_shape owb2
  have r4 := RB.own owb2
  clear owa2 hga2 hgb2 owb2 b4 r3b r3p
  refine (takeblob_any S4 _ k4 _ wb2 (by simp) hk4 (by simp; omega) r4).mono ?_
  obtain ⟨h1, h2, h3⟩ := take_blob ps hp bs
  rw [← HPB.out] at h1 h2 h3
  rw [List.nil_append, h1, h2, h3, errV_zero]
  clear h1 h2 h3
  rintro e w5 ⟨v5, rfl, ow5, b6⟩
  have b7 := below_then b5 b5.size b6
  obtain ⟨S5, k5, rfl, _⟩ := own_shape ow5
  have r5 := RB.own ow5
  have r7b := hrb.below b7
  have r7p := hrp.below b7
  clear ow5 b6 b5 r4
  have s1 := run_str w5 S5 ps k5 r5 9 Try.underlying9
  have s2 := run_str w5 A ps c r7p 9 Try.underlying9
  go_wp2_with fail
  refine (takenum_any B _ cb bs w5 rfl hcb (by omega) r7b).mono ?_
  obtain ⟨u1, u2⟩ := num_taken bs ht.out
  have u3 := takeN_le bs ht.out
  rw [ht.out, errV_zero]
  obtain ⟨V, hV⟩ : ∃ V, V = takeV bs := ⟨_, rfl⟩
  obtain ⟨K, hK⟩ : ∃ K, K = takeN bs := ⟨_, rfl⟩
  rw [← hV] at u1 u2
  rw [← hK] at u1 u3
  rw [← hV, ← hK]
  clear hV hK
  have U1 := Lib.hid u1
  have U2 := Lib.hid u2
  have l1 : 1 ≤ K := u3.1
  have l2 : K ≤ bs.length := u3.2.1
  clear u1 u2 u3
  rintro e w6 ⟨rfl, hw6⟩
  obtain rfl := hw6
  obtain ⟨gb, ob, rfl, _, _⟩ := hrb.addr (by omega)
  go_wp2_with fail
  refine (num_any V _ U2).mono ?_
  rintro e w7 ⟨rfl, hw7⟩
  have b8 : Below w6.heap.size w6 w7 := by rw [hw7]; exact below_alloc _ _
  have r8 : RB w7 (some ⟨w6.heap.size, 0, none⟩) (numb V) := by rw [hw7]; exact RB.new0 _ _ _
  have b9 := below_then b7 b7.size b8
  have r9b := hrb.below b9
  have r9p := hrp.below b9
  clear hw7 b8
  have hcb0 : ¬ cb = 0 := by omega
  have hK1 : (1 : Int) ≤ (K : Int) := by omega
  have hK2 : (K : Int) ≤ (bs.length : Int) := by omega
  have hK3 : (K : Int) ≤ (cb : Int) := by omega
  have hK4 : decide ((K : Int) < 1) = false := decide_eq_false (by omega)
  have hK5 : decide ((bs.length : Int) < (K : Int)) = false := decide_eq_false (by omega)
  have s3 := fun m => run_str (w7.drewN m) _ (numb V) (numb V).length (r8.drewN m) 9 Try.underlying9
  have s4 := fun m => run_str (w7.drewN m) (some ⟨gb, ob, none⟩) (bs.take K) cb ((r9b.take K).drewN m) 9 Try.underlying9
  have hKl : (bs.take K).length = K := by simp; omega
  rw [hKl, ← U1.out] at s4
  have hbnum : (numb V == numb V) = true := by simp
  go_wp2_with fail
  go_quiet (fail)
  clear s3 s4 hKl hbnum hK4 hK5 hK1 hK2 hK3 r8
  have b10 := below_drewN b9 nq
  have r10b := r9b.drewN nq
  have r10p := r9p.drewN nq
  clear b9 r9b r9p b7 r7b r7p r5 s1 s2
  go_wp2_with fail
  refine (takeblob_any (some ⟨gb, ob, none⟩) _ cb bs _ rfl hcb (by omega) r10b).mono ?_
  rw [errV_pos _ hu.out]
  obtain ⟨E4, hE4⟩ : ∃ E, E = tblE bs := ⟨_, rfl⟩
  obtain ⟨P4, hP4⟩ : ∃ E, E = tblP bs := ⟨_, rfl⟩
  obtain ⟨N4, hN4⟩ : ∃ E, E = tblN bs := ⟨_, rfl⟩
  rw [← hE4, ← hP4, ← hN4]
  clear hE4 hP4 hN4
  rintro e w11 ⟨v11, rfl, ow11, b11⟩
  have b12 := below_then b10 b10.size b11
  obtain ⟨S11, k11, rfl, hk11, hS11⟩ := own_shape ow11
  clear ow11 b11 b10 r10b r10p
  go_wp2_with fail
  go_ret
  exact ⟨rfl, b12⟩

set_option maxRecDepth 100000 in
set_option maxHeartbeats 2000000 in
theorem wireBack_1111 (n : Nat) (bn : Hid (n < 9223372036854775808)) (A : Option Addr) (c : Nat) (ps : List UInt8) (B : Option Addr) (cb : Nat) (bs : List UInt8) (w : World) (hA : A = none → c = 0) (hB : B = none → cb = 0) (hcb : bs.length ≤ cb) (hncb : cb ≤ 140737488351232) (hbig : bs.length ≤ 1048576) (hpbig : ps.length ≤ 1048576) (hrp : RB w A ps) (hrb : RB w B bs)
    (hp : ps.length ≤ 65536) (ht : Hid (takeE bs = 0)) (hu : Hid (tblE bs = 0)) :
    Calls Try.prog 7 #[.int .i64 n, .slice A ps.length c, .slice B bs.length cb] w fun e w' => e = .returned (.bool true) ∧ Below w.heap.size w w' := by
  have hpd : decide ((ps.length : Int) ≤ 65536) = true := decide_eq_true (by omega)
  go_enter Try.func7, Try.ntmps7
  go_wp2_with fail
  refine (num_any n _ (Lib.hid (by have := bn.out; omega))).mono ?_
  rintro e w1 ⟨rfl, hw1⟩
  have b1 : Below w.heap.size w w1 := by rw [hw1]; exact below_alloc _ _
  have r1 : RB w1 (some ⟨w.heap.size, 0, none⟩) (numb n) := by rw [hw1]; exact RB.new0 _ _ _
  have r1b := hrb.below b1
  have r1p := hrp.below b1
  obtain ⟨nb, hnb⟩ : ∃ nb, nb = numb n := ⟨_, rfl⟩
  rw [← hnb] at r1 ⊢
  have HNB := Lib.hid hnb
  have hnl : nb.length ≤ 9 := by rw [hnb, numb_length]; have := digs_len8 n (by have := bn.out; omega); omega
  have hnl0 : 1 ≤ nb.length := by rw [hnb, numb_length]; omega
  clear hw1 hnb
  go_wp2_with (first
    | (at_builtin; refine wpList_append_bytes rfl (.tmp 41) (.tmp 42) rfl w1.heap.size (.slice (some ⟨w1.heap.size, 0, none⟩) 0 0) [] nb 0 nb.length nb.length (some ⟨w.heap.size, 0, none⟩) rfl rfl (own_new _ [] 5 (by decide)) (r1.alloc _) rfl (fun h => by cases h) rfl (by omega) (by simp) ?_; intro va1 wa1 owa1 hga1)
    | (at_builtin; refine wpList_append_bytes rfl (.tmp 43) (.tmp 44) rfl w1.heap.size va1 ([] ++ nb) bs (0 + nb.length) bs.length cb B rfl rfl owa1 (r1b.below (below_app0 hga1)) rfl hB (by simp) (by simp; omega) (below_app0 hga1).size ?_; intro vb1 wb1 owb1 hgb1))
  have b2 : Below w.heap.size w wb1 := below_app b1 owa1 hga1 hgb1 b1.size
  obtain ⟨S1, k1, rfl, hk1, hS1⟩ := own_shape owb1
  have r2 := RB.own owb1
  clear owa1 hga1 hgb1 owb1 b1
  refine (takenum_any S1 _ k1 _ wb1 (by simp) hk1 (by simp; omega) r2).mono ?_
  obtain ⟨h1, h2, h3⟩ := take_num n bn.out bs
  rw [← HNB.out] at h1 h2 h3
  rw [List.nil_append, h1, h2, h3, errV_zero]
  clear h1 h2 h3
  rintro e w2 ⟨rfl, hw2⟩
  obtain rfl := hw2
  have r2b := hrb.below b2
  have r2p := hrp.below b2
  clear r2 r1b r1p hk1 r1
  go_wp2_with fail
  refine (blob_any A _ c ps _ rfl hp r2p hA).mono ?_
  obtain ⟨pb, hpb⟩ : ∃ pb, pb = blob ps := ⟨_, rfl⟩
  rw [← hpb]
  have HPB := Lib.hid hpb
  have hpl : pb.length ≤ 65545 := by rw [hpb, blob, List.length_append, numb_length]; have := digs_len8 ps.length (by omega); omega
  clear hpb
  rintro e w3 ⟨v3, rfl, ow3, b3⟩
  have b4 := below_then b2 b2.size b3
  obtain ⟨S3, k3, rfl, hk3, hS3⟩ := own_shape ow3
  have r3 := RB.own ow3
  have r3b := hrb.below b4
  have r3p := hrp.below b4
  clear ow3 b3 b2 r2b r2p
  go_wp2_with (first
    | (at_builtin; refine wpList_append_bytes rfl (.tmp 85) (.tmp 86) rfl w3.heap.size (.slice (some ⟨w3.heap.size, 0, none⟩) 0 0) [] pb 0 pb.length k3 S3 rfl rfl (own_new _ [] 5 (by decide)) (r3.alloc _) rfl hS3 rfl (by omega) (by simp) ?_; intro va2 wa2 owa2 hga2)
    | (at_builtin; refine wpList_append_bytes rfl (.tmp 87) (.tmp 88) rfl w3.heap.size va2 ([] ++ pb) bs (0 + pb.length) bs.length cb B rfl rfl owa2 (r3b.below (below_app0 hga2)) rfl hB (by simp) (by simp; omega) (below_app0 hga2).size ?_; intro vb2 wb2 owb2 hgb2))
  have b5 : Below w.heap.size w wb2 := below_app b4 owa2 hga2 hgb2 b4.size
  obtain ⟨S4, k4, rfl, hk4, hS4⟩ := own_shape owb2
  have r4 := RB.own owb2
  clear owa2 hga2 hgb2 owb2 b4 r3b r3p
  refine (takeblob_any S4 _ k4 _ wb2 (by simp) hk4 (by simp; omega) r4).mono ?_
  obtain ⟨h1, h2, h3⟩ := take_blob ps hp bs
  rw [← HPB.out] at h1 h2 h3
  rw [List.nil_append, h1, h2, h3, errV_zero]
  clear h1 h2 h3
  rintro e w5 ⟨v5, rfl, ow5, b6⟩
  have b7 := below_then b5 b5.size b6
  obtain ⟨S5, k5, rfl, _⟩ := own_shape ow5
  have r5 := RB.own ow5
  have r7b := hrb.below b7
  have r7p := hrp.below b7
  clear ow5 b6 b5 r4
  have s1 := run_str w5 S5 ps k5 r5 9 Try.underlying9
  have s2 := run_str w5 A ps c r7p 9 Try.underlying9
  go_wp2_with fail
  refine (takenum_any B _ cb bs w5 rfl hcb (by omega) r7b).mono ?_
  obtain ⟨u1, u2⟩ := num_taken bs ht.out
  have u3 := takeN_le bs ht.out
  rw [ht.out, errV_zero]
  obtain ⟨V, hV⟩ : ∃ V, V = takeV bs := ⟨_, rfl⟩
  obtain ⟨K, hK⟩ : ∃ K, K = takeN bs := ⟨_, rfl⟩
  rw [← hV] at u1 u2
  rw [← hK] at u1 u3
  rw [← hV, ← hK]
  clear hV hK
  have U1 := Lib.hid u1
  have U2 := Lib.hid u2
  have l1 : 1 ≤ K := u3.1
  have l2 : K ≤ bs.length := u3.2.1
  clear u1 u2 u3
  rintro e w6 ⟨rfl, hw6⟩
  obtain rfl := hw6
  obtain ⟨gb, ob, rfl, _, _⟩ := hrb.addr (by omega)
  go_wp2_with fail
  refine (num_any V _ U2).mono ?_
  rintro e w7 ⟨rfl, hw7⟩
  have b8 : Below w6.heap.size w6 w7 := by rw [hw7]; exact below_alloc _ _
  have r8 : RB w7 (some ⟨w6.heap.size, 0, none⟩) (numb V) := by rw [hw7]; exact RB.new0 _ _ _
  have b9 := below_then b7 b7.size b8
  have r9b := hrb.below b9
  have r9p := hrp.below b9
  clear hw7 b8
  have hcb0 : ¬ cb = 0 := by omega
  have hK1 : (1 : Int) ≤ (K : Int) := by omega
  have hK2 : (K : Int) ≤ (bs.length : Int) := by omega
  have hK3 : (K : Int) ≤ (cb : Int) := by omega
  have hK4 : decide ((K : Int) < 1) = false := decide_eq_false (by omega)
  have hK5 : decide ((bs.length : Int) < (K : Int)) = false := decide_eq_false (by omega)
  have s3 := fun m => run_str (w7.drewN m) _ (numb V) (numb V).length (r8.drewN m) 9 Try.underlying9
  have s4 := fun m => run_str (w7.drewN m) (some ⟨gb, ob, none⟩) (bs.take K) cb ((r9b.take K).drewN m) 9 Try.underlying9
  have hKl : (bs.take K).length = K := by simp; omega
  rw [hKl, ← U1.out] at s4
  have hbnum : (numb V == numb V) = true := by simp
  go_wp2_with fail
  go_quiet (fail)
  clear s3 s4 hKl hbnum hK4 hK5 hK1 hK2 hK3 r8
  have b10 := below_drewN b9 nq
  have r10b := r9b.drewN nq
  have r10p := r9p.drewN nq
  clear b9 r9b r9p b7 r7b r7p r5 s1 s2
  go_wp2_with fail
  refine (takeblob_any (some ⟨gb, ob, none⟩) _ cb bs _ rfl hcb (by omega) r10b).mono ?_
  obtain ⟨u1, u2, u3, u4⟩ := blob_taken bs hu.out
  rw [hu.out, errV_zero]
  obtain ⟨Q, hQ⟩ : ∃ Q, Q = tblP bs := ⟨_, rfl⟩
  obtain ⟨M, hM⟩ : ∃ M, M = tblN bs := ⟨_, rfl⟩
  rw [← hQ] at u1 u2
  rw [← hM] at u1 u3 u4
  rw [← hQ, ← hM]
  clear hQ hM
  have UB := Lib.hid u1
  clear u1
  rintro e w11 ⟨v11, rfl, ow11, b11⟩
  have b12 := below_then b10 b10.size b11
  obtain ⟨S11, k11, rfl, hk11, hS11⟩ := own_shape ow11
  have r11 := RB.own ow11
  have r12b := hrb.below b12
  clear ow11 b11 b10 r10b r10p
  go_wp2_with fail
  refine (blob_any S11 _ k11 Q w11 rfl u2 r11 hS11).mono ?_
  rintro e w13 ⟨v13, rfl, ow13, b13⟩
  have b14 := below_then b12 b12.size b13
  obtain ⟨S13, k13, rfl, _⟩ := own_shape ow13
  have r13 := RB.own ow13
  have r14b := hrb.below b14
  clear ow13 b13 b12 r12b r11
  have hcb0 : ¬ cb = 0 := by omega
  have hM1 : (1 : Int) ≤ (M : Int) := by omega
  have hM2 : (M : Int) ≤ (bs.length : Int) := by omega
  have hM3 : (M : Int) ≤ (cb : Int) := by omega
  have hM4 : decide ((M : Int) < 1) = false := decide_eq_false (by omega)
  have hM5 : decide ((bs.length : Int) < (M : Int)) = false := decide_eq_false (by omega)
  have s5 := fun m => run_str (w13.drewN m) _ (blob Q) k13 (r13.drewN m) 9 Try.underlying9
  have s6 := fun m => run_str (w13.drewN m) (some ⟨gb, ob, none⟩) (bs.take M) cb ((r14b.take M).drewN m) 9 Try.underlying9
  have hMl : (bs.take M).length = M := by simp; omega
  rw [hMl, ← UB.out] at s6
  have hbq : (blob Q == blob Q) = true := by simp
  go_wp2_with fail
  go_quiet (fail)
  have b15 := below_drewN b14 nq
  go_wp2_with fail
  go_ret
  exact ⟨rfl, b15⟩
end Go.Proofs.Ytocjfiahkdpicaa
