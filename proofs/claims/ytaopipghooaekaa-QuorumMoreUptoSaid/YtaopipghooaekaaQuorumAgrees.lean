/- muntinlaw22.QuorumAgrees: the walk. -/
import Derived.Test.YtaopipghooaekaaQAgreePlain
import Derived.Test.YtaopipghooaekaaQSmall
import Derived.Test.YtaopipghooaekaaQMeetsPlain
import Derived.Maps.AppendAt
import Derived.BigQuiet
set_option linter.unusedVariables false
set_option linter.unusedSimpArgs false
namespace Go.Proofs.Ytaopipghooaekaa
open Go.RowKit

/-- 'append' of one element of one cell to a row of the call's own, and where the new row lies -/
theorem wpList_append_one_at {P : Program} {ops : Array Oper} {rest : List Oper} {o : Oper} {a : Act} {Q : Exit → Act → World → Prop} (w : World) (hgd : o.guard = none) (s x : Operand) (t : TypeId)
    (ho : o.op = .call { callee := .builtin .append, args := #[s, x], argTypes := #[t, t] })
    (base : Nat) (e : TypeId) (z : Value) (bytes : Nat) (ht : P.underlying t = some (.slice e)) (hinfo : (P.info? e).map (fun i => (i.zero, i.size, i.bytes)) = some (some z, 1, bytes)) (hzs : z.cells.size = 1)
    (v : Value) (n : Nat) (xs : List Value) (hs : a.eval s = v) (hown : w.ownsRow base e 1 v n xs) (u : Value) (hx : a.eval x = .slice (some ⟨w.heap.size, 0, none⟩) 1 1) (hu : u.oneCell' = true)
    (h63 : n + 1 ≤ maxLen) (hbytes : (n + 1) * bytes ≤ 140737488355328) (hbase : base ≤ w.heap.size)
    (h : ∀ v' w', w'.ownsRow base e 1 v' (n + 1) (xs ++ [u]) → (w.alloc (.cells #[u] e)).grownBy w' v.ownBlock → (v'.ownBlock = v.ownBlock ∨ v'.ownBlock = some (w.heap.size + 1)) → wpList P ops Q rest (a.put o.dst v') w') : wpList P ops Q (o :: rest) a (w.alloc (.cells #[u] e)) := by
  obtain ⟨i0, hi, hz0, hz1, hz2⟩ := info_parts hinfo
  exact wpList_append_own_at _ hgd s x t ho base e i0 z 1 bytes ht hi hz0 hz1 hz2 hzs (by decide) v n xs hs (hown.alloc _) ⟨w.heap.size, 0, none⟩ 1 1 [u] hx rfl (one_new w u e)
    (fun y hy => by simp at hy; subst hy; exact hu) h63 hbytes (by simp; omega) (fun v' w' h1 h2 _ h4 => h v' w' h1 h2 (by simpa using h4))

/-- two rows of the call's own, apart -/
structure Two (base : Nat) (V : Value) (n : Nat) (xs : List Int) (V' : Value) (n' : Nat) (xs' : List Int) (w : World) : Prop where
  o1 : w.ownsRow base 3 1 V n (iv xs)
  o2 : w.ownsRow base 3 1 V' n' (iv xs')
  ap : ∀ k, V.ownBlock = some k → V'.ownBlock ≠ some k
theorem Two.below {base : Nat} {V : Value} {n : Nat} {xs : List Int} {V' : Value} {n' : Nat} {xs' : List Int} {w w' : World} (h : Two base V n xs V' n' xs' w) (b : Below w.heap.size w w') : Two base V n xs V' n' xs' w' :=
  ⟨own_below h.o1 b, own_below h.o2 b, h.ap⟩
/-- behind an append to the first -/
theorem Two.one {base : Nat} {V : Value} {n : Nat} {xs : List Int} {V' : Value} {n' : Nat} {xs' : List Int} {w w' : World} {u : Int} {W : Value} {ob : Obj} (h : Two base V n xs V' n' xs' w)
    (o : w'.ownsRow base 3 1 W (n + 1) (iv xs ++ [.int .i64 u])) (g : (w.alloc ob).grownBy w' V.ownBlock) (at_ : W.ownBlock = V.ownBlock ∨ W.ownBlock = some (w.heap.size + 1)) :
    Two base W (n + 1) (xs ++ [u]) V' n' xs' w' := by
  refine ⟨by rw [iv_append]; exact o, ?_, ?_⟩
  · exact (h.o2.alloc ob).kept g (by
      cases hv : V'.ownBlock with
      | none => exact .inl rfl
      | some k => exact .inr fun e => h.ap k e.symm hv)
  · intro k hk hk'
    rcases at_ with e | e
    · exact h.ap k (e ▸ hk) hk'
    · have := h.o2.lt k hk'
      rw [e] at hk
      cases hk
      omega
theorem Two.two {base : Nat} {V : Value} {n : Nat} {xs : List Int} {V' : Value} {n' : Nat} {xs' : List Int} {w w' : World} {u : Int} {W : Value} {ob : Obj} (h : Two base V n xs V' n' xs' w)
    (o : w'.ownsRow base 3 1 W (n' + 1) (iv xs' ++ [.int .i64 u])) (g : (w.alloc ob).grownBy w' V'.ownBlock) (at_ : W.ownBlock = V'.ownBlock ∨ W.ownBlock = some (w.heap.size + 1)) :
    Two base V n xs W (n' + 1) (xs' ++ [u]) w' := by
  have h' : Two base V' n' xs' V n xs w := ⟨h.o2, h.o1, fun k hk hk' => h.ap k hk' hk⟩
  have := h'.one o g at_
  exact ⟨this.o2, this.o1, fun k hk hk' => this.ap k hk' hk⟩

theorem idxOf_nil (x : Int) : idxOf [] x = 0 := rfl
theorem idxOf_cons (m : Int × Int) (ms : List (Int × Int)) (x : Int) : idxOf (m :: ms) x = if m.1 = x then max m.2 0 else idxOf ms x := by
  unfold idxOf
  rw [firstOf_cons]
  split <;> rfl
theorem filter_next (ns : List Int) (k : Nat) (hk : k < ns.length) (p : Int → Bool) : (ns.take (k + 1)).filter p = (ns.take k).filter p ++ if p ns[k] = true then [ns[k]] else [] := by
  rw [List.take_succ_eq_append_getElem hk, List.filter_append]
  congr 1
  simp only [List.filter_cons, List.filter_nil]

set_option maxRecDepth 100000 in
set_option maxHeartbeats 1000000 in
theorem agrees_bad (A : Option Addr) (n c : Nat) (ns : List Int) (A2 : Option Addr) (n2 c2 : Nat) (ms : List (Int × Int)) (w : World) (hr : RI w A ns) (hl : ns.length = n) (hn : n ≤ 100000000000000) (hr2 : RM w A2 ms) (hl2 : ms.length = n2) (hn2 : n2 ≤ 10000000000000) (hb : rightB ns = false) :
    Calls Try.prog 4 #[.agg #[.slice A n c], .slice A2 n2 c2] w fun e w' => e = .returned (.bool true) ∧ Below w.heap.size w w' := by
  have HA := Lib.hid fun (w1 : World) (h : Below w.heap.size w w1) => (agreed_any A n c ns A2 n2 c2 ms w1 (hr.below h) hl hn (hr2.below h) hl2 (by omega)).mono fun e w' ⟨h1, h2⟩ => (⟨by rw [h1, agreedT_no hb], h2⟩ : e = Ending.returned (.int .i64 0) ∧ Below w1.heap.size w1 w')
  have HQ := Lib.hid fun (w1 : World) (h : Below w.heap.size w w1) => (right_any A n c ns w1 (hr.below h) hl hn).mono fun e w' ⟨h1, h2⟩ => (⟨by rw [h1, rightE_no hb, errQ_one], h2⟩ : e = Ending.returned (.iface 45 (.int .i64 1)) ∧ Below w1.heap.size w1 w')
  clear hr hr2 hl hl2 hb
  go_enter Try.func4, Try.ntmps4
  go_wp2_with (first
    | (go_at_call 12; refine (HQ.out _ B2).mono ?_; rintro e w3 ⟨rfl, b3⟩; (have B3 := below_then B2 B2.size b3))
    | (go_at_call 11; refine (HA.out _ B1).mono ?_; rintro e w2 ⟨rfl, b2⟩; (have B2 := below_then B1 B1.size b2); (have q1 := below_cell b2 q0); clear q0)
    | (go_at_call 7; refine (small_any _).mono ?_; rintro e w1 ⟨rfl, b1⟩; (have B1 := box_below b1); have q0 := box_cell b1))
  go_ret
  exact ⟨rfl, B3⟩

set_option maxRecDepth 100000 in
set_option maxHeartbeats 1000000 in
theorem agrees_good (A : Option Addr) (n c : Nat) (ns : List Int) (A2 : Option Addr) (n2 c2 : Nat) (ms : List (Int × Int)) (w : World) (hr : RI w A ns) (hl : ns.length = n) (hr2 : RM w A2 ms) (hl2 : ms.length = n2) (hn2 : n2 ≤ 10000000000000) (hb : rightB ns = true) :
    Calls Try.prog 4 #[.agg #[.slice A n c], .slice A2 n2 c2] w fun e w' => e = .returned (.bool true) ∧ Below w.heap.size w w' := by
  have hlen := right_len hb
  rw [hl] at hlen
  obtain ⟨h0, h5⟩ := hlen
  obtain ⟨N, hN⟩ : ∃ N, N = agreedT ns ms := ⟨_, rfl⟩
  have HA := Lib.hid fun (w1 : World) (h : Below w.heap.size w w1) => (agreed_any A n c ns A2 n2 c2 ms w1 (hr.below h) hl (by omega) (hr2.below h) hl2 (by omega)).mono fun e w' ⟨h1, h2⟩ => (⟨by rw [h1, hN], h2⟩ : e = Ending.returned (.int .i64 N) ∧ Below w1.heap.size w1 w')
  have HQ := Lib.hid fun (w1 : World) (h : Below w.heap.size w w1) => (right_any A n c ns w1 (hr.below h) hl (by omega)).mono fun e w' ⟨h1, h2⟩ => (⟨by rw [h1, rightE_ok hb, errQ_zero], h2⟩ : e = Ending.returned (.nilIface) ∧ Below w1.heap.size w1 w')
  have HAV := Lib.hid (agreed_have ms hb)
  have HMO := Lib.hid (agreed_more ms hb)
  rw [← hN] at HAV HMO
  have HW := Lib.hid fun (w1 : World) (h : Below w.heap.size w w1) (V : Option Addr) (m cm : Nat) (l : List Int) (q : Bool) (hq : wonB ns l = q) (ho : RI w1 V l) (hlm : l.length = m) (hm : m ≤ 100) => (won_any A n c ns V m cm l w1 (hr.below h) hl (by omega) ho hlm (by omega)).mono fun e w' ⟨h1, h2⟩ => (⟨by rw [h1, hq], h2⟩ : e = Ending.returned (.bool q) ∧ Below w1.heap.size w1 w')
  have HR := Lib.hid hr
  have HR2 := Lib.hid hr2
  have HL := Lib.hid hl
  have HL2 := Lib.hid hl2
  clear hr hr2 hl hl2 hb hN
  go_enter Try.func4, Try.ntmps4
  go_wp2_with (first
    | (go_at_call 12; refine (HQ.out _ B2).mono ?_; rintro e w3 ⟨rfl, b3⟩; (have B3 := below_then B2 B2.size b3); (have q2 := below_cell b3 q1); clear q1)
    | (go_at_call 11; refine (HA.out _ B1).mono ?_; rintro e w2 ⟨rfl, b2⟩; (have B2 := below_then B1 B1.size b2); (have q1 := below_cell b2 q0); clear q0)
    | (go_at_call 7; refine (small_any _).mono ?_; rintro e w1 ⟨rfl, b1⟩; (have B1 := box_below b1); have q0 := box_cell b1))
  have HC := Lib.hid fun (w' : World) (h : Below w3.heap.size w3 w') => below_cell h q2
  have HR3 := Lib.hid (HR.out.below B3)
  have HR23 := Lib.hid (HR2.out.below B3)
  clear q2 HR HR2 HA HQ
  go_loopg [7, 8, 9] n (fun q va vb ki wr => ∃ (k : Nat) (VA VB : Option Addr) (na nb ca cb : Nat), q = n - k ∧ k ≤ n ∧ va = .slice VA na ca ∧ vb = .slice VB nb cb ∧ ki = .int .i64 k ∧ na ≤ k ∧ nb ≤ k ∧
      Two w3.heap.size (.slice VA na ca) na ((ns.take k).filter fun v => decide (N ≤ idxOf ms v)) (.slice VB nb cb) nb ((ns.take k).filter fun v => decide (N < idxOf ms v)) wr ∧ Below w3.heap.size w3 wr)
  case atStart => exact ⟨0, none, none, 0, 0, 0, 0, by omega, by omega, rfl, rfl, rfl, by omega, by omega, ⟨⟨by simp [iv], .inl ⟨rfl, rfl⟩⟩, ⟨by simp [iv], .inl ⟨rfl, rfl⟩⟩, fun k hk => by simp [Value.ownBlock] at hk⟩, Below.refl _ _⟩
  case round =>
    obtain ⟨k, VA, VB, na, nb, ca, cb, hm, hk, rfl, rfl, rfl, hna, hnb, tw, bel⟩ := hrel
    have q3 := HC.out _ bel
    by_cases hkl : k < n
    · have hkl1 : (k : Int) < (n : Int) := by omega
      have hke : k < ns.length := by rw [HL.out]; exact hkl
      have HF1 := Lib.hid (filter_next ns k hke fun v => decide (N ≤ idxOf ms v))
      have HF2 := Lib.hid (filter_next ns k hke fun v => decide (N < idxOf ms v))
      obtain ⟨g, o, rfl, hg, hc⟩ := (HR3.out).addr (by omega)
      have hce := hc k hke
      obtain ⟨x, hx⟩ : ∃ x, x = ns[k] := ⟨_, rfl⟩
      rw [← hx] at hce HF1 HF2
      have HX := Lib.hid fun (w' : World) (h : Below w3.heap.size w3 w') => below_cell h hce
      clear hc hx hce
      go_wp2_with fail
      go_loopg [10, 11] n2 (fun q zi ji wr2 => ∃ (m : Nat) (z : Int), q = m ∧ m ≤ n2 ∧ zi = .int .i64 z ∧ ji = .int .i64 ((m : Int) - 1) ∧ Hid (idxOf (ms.drop m) x = z) ∧ Below wr.heap.size wr wr2)
      case atStart => exact ⟨n2, 0, rfl, by omega, rfl, by go_num, Lib.hid (by rw [List.drop_of_length_le (by rw [HL2.out]; exact Nat.le_refl _)]; rfl), Below.refl _ _⟩
      case round =>
        obtain ⟨m, z, hm2, hmn, rfl, rfl, HZ, bel2⟩ := hrel
        have bel3 := below_then bel bel.size bel2
        have q4 := HC.out _ bel3
        have q5 := HX.out _ bel3
        cases m with
        | succ j =>
          have hjl : j < ms.length := by rw [HL2.out]; omega
          rw [show (((j + 1 : Nat) : Int) - 1) = (j : Int) by omega]
          obtain ⟨g2, o2, rfl, hg2, hc2⟩ := (HR23.out.below bel3).addr (by omega)
          obtain ⟨q6, q7⟩ := hc2 j hjl
          have hj0 : (0 : Int) ≤ (j : Int) := by omega
          have hj1 : (j : Int) < (n2 : Int) := by omega
          have hdr : ms.drop j = ms[j] :: ms.drop (j + 1) := List.drop_eq_getElem_cons hjl
          obtain ⟨⟨a, b⟩, hab⟩ : ∃ p, p = ms[j] := ⟨_, rfl⟩
          rw [← hab] at q6 q7 hdr
          simp only at q6 q7
          have HD := Lib.hid (show idxOf (ms.drop j) x = if a = x then max b 0 else idxOf (ms.drop (j + 1)) x by rw [hdr, idxOf_cons])
          clear hc2 hab hdr
          by_cases hax : a = x
          · have dax : (a == x) = true := beq_iff_eq.2 hax
            have HAX := Lib.hid hax
            clear hax
            go_wp2_with fail
            go_quiet (fail)
            go_wp2_with fail
            go_roundg j
            case measure => omega
            case rel =>
              refine ⟨j, max b 0, rfl, by omega, by rw [Int.max_comm], by go_num, Lib.hid ?_, below_draws bel2 _⟩
              rw [HD.out, if_pos HAX.out]
          · have dax : (a == x) = false := beq_eq_false_iff_ne.2 hax
            have HAX := Lib.hid hax
            clear hax
            go_wp2_with fail
            go_quiet (fail)
            go_wp2_with fail
            go_roundg j
            case measure => omega
            case rel =>
              refine ⟨j, z, rfl, by omega, rfl, by go_num, Lib.hid ?_, below_draws bel2 _⟩
              rw [HD.out, if_neg HAX.out, HZ.out]
        | zero =>
          have HZ0 := Lib.hid (show idxOf ms x = z by have := HZ.out; simpa using this)
          have tw2 := tw.below bel2
          clear HZ q3
          rcases (show z < N ∨ z = N ∨ N < z by omega) with hzn | hzn | hzn
          · have d1 : decide (N ≤ z) = false := decide_eq_false (by omega)
            have d2 : decide (N < z) = false := decide_eq_false (by omega)
            have HT1 := Lib.hid (show ((ns.take (k + 1)).filter fun v => decide (N ≤ idxOf ms v)) = ((ns.take k).filter fun v => decide (N ≤ idxOf ms v)) by rw [HF1.out, HZ0.out, d1]; simp)
            have HT2 := Lib.hid (show ((ns.take (k + 1)).filter fun v => decide (N < idxOf ms v)) = ((ns.take k).filter fun v => decide (N < idxOf ms v)) by rw [HF2.out, HZ0.out, d2]; simp)
            clear hzn
            go_wp2_with fail
            go_roundg (n - (k + 1))
            case measure => omega
            case rel => exact ⟨k + 1, _, _, _, _, _, _, rfl, by omega, rfl, rfl, by go_num, by omega, by omega, by rw [HT1.out, HT2.out]; exact tw2, bel3⟩
          · have d1 : decide (N ≤ z) = true := decide_eq_true (by omega)
            have d2 : decide (N < z) = false := decide_eq_false (by omega)
            have HT1 := Lib.hid (show ((ns.take (k + 1)).filter fun v => decide (N ≤ idxOf ms v)) = ((ns.take k).filter fun v => decide (N ≤ idxOf ms v)) ++ [x] by rw [HF1.out, HZ0.out, d1]; simp)
            have HT2 := Lib.hid (show ((ns.take (k + 1)).filter fun v => decide (N < idxOf ms v)) = ((ns.take k).filter fun v => decide (N < idxOf ms v)) by rw [HF2.out, HZ0.out, d2]; simp)
            clear hzn
            go_wp2_with (at_builtin; refine wpList_append_one_at wr rfl (.tmp 62) (.tmp 68) 22 rfl w3.heap.size 3 (.int .i64 0) 8 Try.underlying22 info_int rfl (.slice VA na ca) na (iv _) rfl tw2.o1 (.int .i64 x) rfl rfl (by unfold maxLen; omega) (by omega) bel3.size ?_; intro v4 w4 own4 hg4 hat4; (obtain ⟨g4, ca4, rfl⟩ := own_slice own4 (by omega)); (have tw4 := tw2.one own4 hg4 hat4); (have bel4 := grown_below bel3 tw2.o1 hg4 bel3.size (Nat.le_refl _)); have q8 := HC.out _ bel4; have q9 := HX.out _ bel4)
            go_roundg (n - (k + 1))
            case measure => omega
            case rel => exact ⟨k + 1, _, _, _, _, _, _, rfl, by omega, rfl, rfl, by go_num, by omega, by omega, by rw [HT1.out, HT2.out]; exact tw4, bel4⟩
          · have d1 : decide (N ≤ z) = true := decide_eq_true (by omega)
            have d2 : decide (N < z) = true := decide_eq_true (by omega)
            have HT1 := Lib.hid (show ((ns.take (k + 1)).filter fun v => decide (N ≤ idxOf ms v)) = ((ns.take k).filter fun v => decide (N ≤ idxOf ms v)) ++ [x] by rw [HF1.out, HZ0.out, d1]; simp)
            have HT2 := Lib.hid (show ((ns.take (k + 1)).filter fun v => decide (N < idxOf ms v)) = ((ns.take k).filter fun v => decide (N < idxOf ms v)) ++ [x] by rw [HF2.out, HZ0.out, d2]; simp)
            clear hzn
            go_wp2_with (first | (at_builtin; refine wpList_append_one_at w4 rfl (.tmp 73) (.tmp 79) 22 rfl w3.heap.size 3 (.int .i64 0) 8 Try.underlying22 info_int rfl (.slice VB nb cb) nb (iv _) rfl tw4.o2 (.int .i64 x) rfl rfl (by unfold maxLen; omega) (by omega) bel4.size ?_; intro v5 w5 own5 hg5 hat5; (obtain ⟨g5, cb5, rfl⟩ := own_slice own5 (by omega)); (have tw5 := tw4.two own5 hg5 hat5); (have bel5 := grown_below bel4 tw4.o2 hg5 bel4.size (Nat.le_refl _))) | (at_builtin; refine wpList_append_one_at wr rfl (.tmp 62) (.tmp 68) 22 rfl w3.heap.size 3 (.int .i64 0) 8 Try.underlying22 info_int rfl (.slice VA na ca) na (iv _) rfl tw2.o1 (.int .i64 x) rfl rfl (by unfold maxLen; omega) (by omega) bel3.size ?_; intro v4 w4 own4 hg4 hat4; (obtain ⟨g4, ca4, rfl⟩ := own_slice own4 (by omega)); (have tw4 := tw2.one own4 hg4 hat4); (have bel4 := grown_below bel3 tw2.o1 hg4 bel3.size (Nat.le_refl _)); have q8 := HC.out _ bel4; have q9 := HX.out _ bel4))
            go_roundg (n - (k + 1))
            case measure => omega
            case rel => exact ⟨k + 1, _, _, _, _, _, _, rfl, by omega, rfl, rfl, by go_num, by omega, by omega, by rw [HT1.out, HT2.out]; exact tw5, bel5⟩
    · obtain rfl : k = n := by omega
      have htk : ns.take k = ns := List.take_of_length_le (by rw [HL.out]; exact Nat.le_refl _)
      rw [htk] at tw
      have l1 : (ns.filter fun v => decide (N ≤ idxOf ms v)).length = na := by simpa using tw.o1.1
      have l2 : (ns.filter fun v => decide (N < idxOf ms v)).length = nb := by simpa using tw.o2.1
      have B4 := below_then B3 B3.size bel
      have HW1 := Lib.hid (HW.out wr B4 VA na ca _ _ HAV.out (RI.own tw.o1) l1 (by omega))
      have HW2 := Lib.hid fun w' (h : Below wr.heap.size wr w') => (HW.out w' (below_then B4 B4.size h) VB nb cb _ _ HMO.out ((RI.own tw.o2).below h) l2 (by omega))
      have HC2 := Lib.hid fun (w' : World) (h : Below wr.heap.size wr w') => below_cell h q3
      clear htk tw l1 l2 HW
      go_wp2_with (first
        | (go_at_call 10; refine (HW2.out _ b5).mono ?_; rintro e w6 ⟨rfl, b6⟩)
        | (go_at_call 10; refine HW1.out.mono ?_; rintro e w5 ⟨rfl, b5⟩; have q5 := HC2.out _ b5))
      go_ret
      exact ⟨rfl, below_then (below_then B4 B4.size b5) (below_then B4 B4.size b5).size b6⟩

theorem quorumAgrees_row (A : Option Addr) (c : Nat) (ns : List Int) (A2 : Option Addr) (c2 : Nat) (ms : List (Int × Int)) (w : World)
    (hl : ns.length ≤ c) (hn : c ≤ 17592186044416) (hr : RI w A ns) (hl2 : ms.length ≤ c2) (hn2 : c2 ≤ 8796093022208) (hr2 : RM w A2 ms) :
    Calls Try.prog 4 #[.agg #[.slice A ns.length c], .slice A2 ms.length c2] w fun e w' => e = .returned (.bool true) ∧ Below w.heap.size w w' := by
  cases hb : rightB ns with
  | false => exact agrees_bad A _ c ns A2 _ c2 ms w hr rfl (by omega) hr2 rfl (by omega) hb
  | true => exact agrees_good A _ c ns A2 _ c2 ms w hr rfl hr2 rfl (by omega) hb
end Go.Proofs.Ytaopipghooaekaa
