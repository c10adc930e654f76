/- muntinlaw22.QuorumMore: the walk. -/
import Derived.Test.YtaopipghooaekaaQuorumAgrees
import Derived.Deep.RegionHeld3
import Derived.Deep.AppendLies
import Derived.IntWalk
import Derived.Test.YtaopipghooaekaaLow
import Derived.Test.YtaopipghooaekaaHeldZ
import Derived.Laws.AppendOwnNone
set_option linter.unusedVariables false
set_option linter.unusedSimpArgs false
namespace Go.Proofs.Ytaopipghooaekaa
open Go.RowKit

/-- matches as cells -/
def mv : List (Int × Int) → List Value
  | [] => []
  | m :: ms => .int .i64 m.1 :: .int .i64 m.2 :: mv ms
theorem mv_length : ∀ ms : List (Int × Int), (mv ms).length = ms.length * 2
  | [] => rfl
  | m :: ms => by simp only [mv, List.length_cons, mv_length ms]; omega
theorem mv_append : ∀ a b : List (Int × Int), mv (a ++ b) = mv a ++ mv b
  | [], b => rfl
  | m :: a, b => by simp only [List.cons_append, mv, mv_append a b]
theorem mv_get : ∀ (ms : List (Int × Int)) (i : Nat) (h : i < ms.length), (mv ms)[i * 2]? = some (.int .i64 ms[i].1) ∧ (mv ms)[i * 2 + 1]? = some (.int .i64 ms[i].2)
  | m :: ms, 0, _ => ⟨rfl, rfl⟩
  | m :: ms, i + 1, h => by
    have := mv_get ms i (by simpa using h)
    rw [show (i + 1) * 2 = i * 2 + 1 + 1 by omega]
    simp only [mv, List.getElem?_cons_succ, List.getElem_cons_succ]
    exact this
theorem RM.own {w : World} {base : Nat} {n c : Nat} {A : Option Addr} {ms : List (Int × Int)} (h : w.ownsRow base 37 2 (.slice A n c) n (mv ms)) (hn : ms.length = n) : RM w A ms := by
  rcases h.2 with ⟨h1, rfl⟩ | ⟨g, cap, cur, h1, _, hg, hcap, _, hsz, ht⟩
  · obtain rfl := List.eq_nil_of_length_eq_zero hn
    exact RM.nil _ _
  · cases h1
    refine RM.mk' fun i hi => ?_
    obtain ⟨g1, g2⟩ := mv_get ms i hi
    rw [← ht, List.getElem?_take_of_lt (by omega)] at g1 g2
    simp only [World.cell?, hg, Option.isSome_none, Bool.false_eq_true, ↓reduceIte, Nat.zero_add]
    exact ⟨by simpa using g1, by simpa using g2⟩
theorem info_match : (Try.prog.info? 37).map (fun i => (i.zero, i.size, i.bytes)) = some (some (.agg #[.int .i64 0, .int .i64 0]), 2, 16) := by kernel_rfl
/-- a new row of no number -/
theorem own_none (w : World) : (w.alloc (.cells #[] 3)).ownsRow w.heap.size 3 1 (.slice (some ⟨w.heap.size, 0, none⟩) 0 0) 0 (iv []) :=
  ⟨rfl, .inr ⟨w.heap.size, 0, _, rfl, Nat.le_refl _, heap_alloc_new w _, Nat.le_refl _, by unfold maxLen; omega, rfl, rfl⟩⟩
/-- 'append' of numbers to numbers of the call's own -/
theorem wpList_append_ints {ops : Array Oper} {rest : List Oper} {o : Oper} {a : Act} {Q : Exit → Act → World → Prop} {w : World} (hgd : o.guard = none) (s x : Operand)
    (ho : o.op = .call { callee := .builtin .append, args := #[s, x], argTypes := #[22, 22] })
    (base : Nat) (v : Value) (xs bs : List Int) (n m c : Nat) (A : Option Addr) (hs : a.eval s = v) (hx : a.eval x = .slice A m c)
    (hown : w.ownsRow base 3 1 v n (iv xs)) (hr : RI w A bs) (hm : bs.length = m) (hA : A = none → c = 0)
    (hlen : n + m ≤ 17592186044416) (hbase : base ≤ w.heap.size)
    (h : ∀ v' w', w'.ownsRow base 3 1 v' (n + m) (iv (xs ++ bs)) → w.grownBy w' v.ownBlock → wpList Try.prog ops Q rest (a.put o.dst v') w') : wpList Try.prog ops Q (o :: rest) a w := by
  obtain ⟨i0, hi, hz0, hz1, hz2⟩ := info_parts info_int
  subst hm
  cases A with
  | none =>
    obtain rfl := hA rfl
    have h0 : bs = [] := by
      cases bs with
      | nil => rfl
      | cons b bs => obtain ⟨a, ha, _⟩ := hr 0 (by simp); cases ha
    subst h0
    refine wpList_append_own_none hgd s x 22 ho base 3 i0 1 Try.underlying22 hi v n (iv xs) hs hown hx (h v w ?_ ⟨rfl, rfl, rfl, Nat.le_refl _, fun _ _ _ => rfl⟩)
    simpa using hown
  | some ad =>
    refine wpList_append_own w hgd s x 22 ho base 3 i0 (.int .i64 0) 1 8 Try.underlying22 hi hz0 hz1 hz2 rfl (by decide) v n (iv xs) hs hown ad bs.length c (iv bs) hx (by simp) ?_ (iv_one bs) (by unfold maxLen; omega) (by omega) hbase ?_
    · intro j u hj
      have hj' : j < bs.length := by have := (List.getElem?_eq_some_iff.1 hj).1; simpa using this
      obtain ⟨a', ha', hcell⟩ := hr j hj'
      obtain rfl := Option.some.inj ha'
      rw [show (iv bs)[j]? = some (.int .i64 bs[j]) by simp [iv, hj']] at hj
      rw [hcell]; exact hj
    · intro v' w' h1 h2 _
      rw [← iv_append] at h1
      exact h v' w' h1 h2

/-- 'append' of one match to matches of the call's own -/
theorem wpList_append_match {ops : Array Oper} {rest : List Oper} {o : Oper} {a : Act} {Q : Exit → Act → World → Prop} (w : World) (hgd : o.guard = none) (s x : Operand)
    (ho : o.op = .call { callee := .builtin .append, args := #[s, x], argTypes := #[33, 33] })
    (base : Nat) (v : Value) (n : Nat) (ms : List (Int × Int)) (hs : a.eval s = v) (hown : w.ownsRow base 37 2 v n (mv ms)) (p q : Int) (H : Nat) (hH : w.heap.size = H) (hx : a.eval x = .slice (some ⟨H, 0, none⟩) 1 1)
    (hn : n ≤ 8000000000000) (hbase : base ≤ w.heap.size)
    (h : ∀ v' w', w'.ownsRow base 37 2 v' (n + 1) (mv (ms ++ [(p, q)])) → (w.alloc (.cells #[.int .i64 p, .int .i64 q] 37)).grownBy w' v.ownBlock → wpList Try.prog ops Q rest (a.put o.dst v') w') :
    wpList Try.prog ops Q (o :: rest) a (w.alloc (.cells #[.int .i64 p, .int .i64 q] 37)) := by
  obtain ⟨i0, hi, hz0, hz1, hz2⟩ := info_parts info_match
  subst hH
  refine wpList_append_own _ hgd s x 33 ho base 37 i0 _ 2 16 Try.underlying33 hi hz0 hz1 hz2 rfl (by decide) v n (mv ms) hs (hown.alloc _) ⟨w.heap.size, 0, none⟩ 1 1 [.int .i64 p, .int .i64 q] hx rfl
    (World.news_of_block (cs := #[.int .i64 p, .int .i64 q]) (t := 37) (fr := (0, 0)) (heap_alloc_new w _)) (by simp [Value.oneCell']) (by unfold maxLen; omega) (by omega) (by simp; omega) (fun v' w' h1 h2 _ => h v' w' ?_ h2)
  rw [mv_append]
  exact h1

theorem won_at {A : Option Addr} {n c : Nat} {ns : List Int} {A2 : Option Addr} {n2 c2 : Nat} {l : List Int} {w : World} (q : Bool) (hr : RI w A ns) (hr2 : RI w A2 l) (h : Hid (ns.length = n ∧ l.length = n2 ∧ wonB ns l = q)) (hn : n ≤ 10000000) (hn2 : n2 ≤ 10000000) :
    Calls Try.prog 10 #[.agg #[.slice A n c], .slice A2 n2 c2] w fun e w' => e = .returned (.bool q) ∧ Below w.heap.size w w' := by
  have := won_any A n c ns A2 n2 c2 l w hr h.out.1 (by omega) hr2 h.out.2.1 (by omega)
  rwa [h.out.2.2] at this
theorem agreed_at {A : Option Addr} {n c : Nat} {ns : List Int} {A2 : Option Addr} {n2 c2 : Nat} {l : List (Int × Int)} {w : World} (q : Int) (hr : RI w A ns) (hr2 : RM w A2 l) (h : Hid (ns.length = n ∧ l.length = n2 ∧ agreedT ns l = q)) (hn : n ≤ 10000000) (hn2 : n2 ≤ 10000000) :
    Calls Try.prog 11 #[.agg #[.slice A n c], .slice A2 n2 c2] w fun e w' => e = .returned (.int .i64 q) ∧ Below w.heap.size w w' := by
  have := agreed_any A n c ns A2 n2 c2 l w hr h.out.1 (by omega) hr2 h.out.2.1 (by omega)
  rwa [h.out.2.2] at this

/-- what the loop's and the last region's loads read, and what the calls ask -/
structure Mo (B : Nat) (A : Option Addr) (n c : Nat) (ns : List Int) (V : Option Addr) (all : List Int) (A3 : Option Addr) (ms : List (Int × Int)) (w : World) : Prop where
  c1 : w.cell? ⟨B, 0, none⟩ = some (.slice A n c)
  r1 : RI w A ns
  r2 : RI w V all
  r3 : RM w A3 ms
theorem Mo.below {B : Nat} {A : Option Addr} {n c : Nat} {ns : List Int} {V : Option Addr} {all : List Int} {A3 : Option Addr} {ms : List (Int × Int)} {w w' : World} (h : Mo B A n c ns V all A3 ms w) (b : Below w.heap.size w w') : Mo B A n c ns V all A3 ms w' :=
  ⟨below_cell b h.c1, h.r1.below b, h.r2.below b, h.r3.below b⟩
theorem far_next (ms : List (Int × Int)) (d : Int) (k : Nat) (hk : k < ms.length) : farT (ms.take (k + 1)) d = farT (ms.take k) d ++ [((ms[k]).1, if (ms[k]).2 < 1099511627776 then (ms[k]).2 + d else (ms[k]).2)] := by
  unfold farT
  rw [List.take_succ_eq_append_getElem hk, List.map_append]
  rfl

theorem mo_keep {B : Nat} {A : Option Addr} {n c : Nat} {ns : List Int} {V : Option Addr} {all : List Int} {A3 F : Option Addr} {ms fs : List (Int × Int)} {w0 w w' : World} (b : Below w.heap.size w w')
    (h : w.cell? ⟨B, 0, none⟩ = some (.slice A n c) ∧ RI w A ns ∧ RI w V all ∧ RM w A3 ms ∧ RM w F fs ∧ Below w0.heap.size w0 w) :
    w'.cell? ⟨B, 0, none⟩ = some (.slice A n c) ∧ RI w' A ns ∧ RI w' V all ∧ RM w' A3 ms ∧ RM w' F fs ∧ Below w0.heap.size w0 w' :=
  ⟨below_cell b h.1, h.2.1.below b, h.2.2.1.below b, h.2.2.2.1.below b, h.2.2.2.2.1.below b, below_then h.2.2.2.2.2 h.2.2.2.2.2.size b⟩

set_option maxRecDepth 100000 in
set_option maxHeartbeats 2000000 in
theorem more_walk (A : Option Addr) (n c : Nat) (ns : List Int) (A1 : Option Addr) (n1 c1 : Nat) (some_ : List Int) (A2 : Option Addr) (n2 c2 : Nat) (more : List Int) (A3 : Option Addr) (n3 c3 : Nat) (ms : List (Int × Int)) (by_ d : Int) (w : World) (q : Bool)
    (hr : RI w A ns) (hl : ns.length = n) (hn : n ≤ 1048576) (hr1 : RI w A1 some_) (hl1 : some_.length = n1) (hn1 : n1 ≤ 1048576) (ha1 : A1 = none → c1 = 0) (hr2 : RI w A2 more) (hl2 : more.length = n2) (hn2 : n2 ≤ 1048576) (ha2 : A2 = none → c2 = 0)
    (hr3 : RM w A3 ms) (hl3 : ms.length = n3) (hn3 : n3 ≤ 1048576) (hw3 : ∀ m ∈ ms, (Lit.int .i64 m.2).wf = true) (wb : (Lit.int .i64 by_).wf = true) (hq : wonB ns some_ = q) (hd : bits .and .i64 by_ 255 = d) :
    Calls Try.prog 6 #[.agg #[.slice A n c], .slice A1 n1 c1, .slice A2 n2 c2, .slice A3 n3 c3, .int .i64 by_] w fun e w' => e = .returned (.bool true) ∧ Below w.heap.size w w' := by
  have HW1 := Lib.hid (show ns.length = n ∧ some_.length = n1 ∧ wonB ns some_ = q from ⟨hl, hl1, hq⟩)
  have HR := Lib.hid hr
  have HR1 := Lib.hid hr1
  have HR2 := Lib.hid hr2
  have HR3 := Lib.hid hr3
  have HL := Lib.hid hl
  have HL1 := Lib.hid hl1
  have HL2 := Lib.hid hl2
  have HL3 := Lib.hid hl3
  have HA1 := Lib.hid ha1
  have HA2 := Lib.hid ha2
  have HQ := Lib.hid hq
  have HWF := Lib.hid hw3
  have HD := Lib.hid (show bits .and .i64 by_ 255 = d ∧ 0 ≤ d ∧ d ≤ 255 from ⟨hd, by rw [← hd, i64_and255]; omega, by rw [← hd, i64_and255]; omega⟩)
  clear hr hr1 hr2 hr3 hl hl1 hl2 hl3 ha1 ha2 hq hw3 wb hd
  go_enter Try.func6, Try.ntmps6
  go_wp2_with (first
    | (go_at_call 7; refine (small_any _).mono ?_; rintro e w1 ⟨rfl, b1⟩; (have B1 := box_below b1); have q0 := box_cell b1)
    | (go_at_call 10; refine (won_at q (HR.out.below B1) (HR1.out.below B1) HW1 (by omega) (by omega)).mono ?_; rintro e w2 ⟨rfl, b2⟩; (have B2 := below_then B1 B1.size b2); (have q1 := below_cell b2 q0); clear q0)
    | (at_builtin; refine wpList_append_ints rfl (.tmp 23) (.tmp 24) rfl w2.heap.size v3 some_ more n1 n2 c2 A2 rfl rfl own3 (HR2.out.below (B2.trans (g3.mono B2.size))) HL2.out HA2.out (by omega) g3.size ?_; intro v4 w4 own4 hg4; (have g4 := g3.grown hg4 g3.size (fun k hk => (own3.lt k hk).1)))
    | (at_builtin; refine wpList_append_ints rfl (.tmp 21) (.tmp 22) rfl w2.heap.size (.slice (some ⟨w2.heap.size, 0, none⟩) 0 0) [] some_ 0 n1 c1 A1 rfl rfl (own_none w2) (HR1.out.below (below_then B2 B2.size (below_alloc w2 _))) HL1.out HA1.out (by omega) (by simp) ?_; intro v3 w3 own3 hg3; rw [Nat.zero_add, List.nil_append] at own3; (have g3 := (below_alloc w2 (.cells #[] 3)).grown hg3 (below_alloc w2 _).size (fun k hk => ((own_none w2).lt k hk).1))))
  obtain ⟨A4, c4, rfl, -, -⟩ := own_shape own4
  have B4 := B2.trans (g4.mono B2.size)
  have mo : Mo w.heap.size A n c ns A4 (some_ ++ more) A3 ms w4 := ⟨below_cell g4 q1, HR.out.below B4, RI.own own4, HR3.out.below B4⟩
  clear own4 own3 hg3 hg4 q1 g3 HR HR1 HR2 HR3
  go_loopg [14, 15] n3 (fun p fi ki wr => ∃ (k : Nat) (F : Option Addr) (fc : Nat), p = n3 - k ∧ k ≤ n3 ∧ fi = .slice F k fc ∧ ki = .int .i64 k ∧ wr.ownsRow w4.heap.size 37 2 (.slice F k fc) k (mv (farT (ms.take k) d)) ∧ Below w4.heap.size w4 wr)
  case atStart => exact ⟨0, none, 0, by omega, by omega, rfl, rfl, ⟨rfl, .inl ⟨rfl, rfl⟩⟩, Below.refl _ _⟩
  case round =>
    obtain ⟨k, F, fc, hm, hk, rfl, rfl, own, bel⟩ := hrel
    by_cases hkl : k < n3
    · have hkl1 : (k : Int) < (n3 : Int) := by omega
      have hke : k < ms.length := by rw [HL3.out]; exact hkl
      have HFN := Lib.hid (far_next ms d k hke)
      obtain ⟨g, o, rfl, hg, hc⟩ := (mo.r3.below bel).addr (by omega)
      obtain ⟨e1, e2⟩ := hc k hke
      have hwf := HWF.out _ (List.getElem_mem hke)
      obtain ⟨⟨x, y⟩, hxy⟩ : ∃ p, p = ms[k] := ⟨_, rfl⟩
      rw [← hxy] at e1 e2 HFN hwf
      simp only at e1 e2 hwf
      have HWY := Lib.hid hwf
      clear hc hxy hwf
      by_cases hy : y < 1099511627776
      · have HYY := Lib.hid (show (if y < 1099511627776 then y + d else y) = wrap64 (y + d) by
          rw [if_pos hy]
          have h1 := HWY.out
          have h2 := HD.out
          simp [Lit.wf, IntKind.min, IntKind.max, IntKind.signed, IntKind.bits] at h1
          unfold wrap64
          omega)
        have hdd := HD.out.1
        go_wp2_with (at_builtin; refine wpList_append_match (wr.alloc (.cells #[.int .i64 x, .int .i64 (wrap64 (y + d))] 37)) rfl (.tmp 45) (.tmp 47) rfl w4.heap.size (.slice F k fc) k (farT (ms.take k) d) rfl (own.alloc _) x (wrap64 (y + d)) (wr.heap.size + 1) (by simp) rfl (by omega) (bel.alloc bel.size _).size ?_; intro v5 w5 own5 hg5)
        go_roundg (n3 - (k + 1))
        case measure => omega
        case rel =>
          obtain ⟨F5, c5, rfl, -, -⟩ := own_shape own5
          refine ⟨k + 1, F5, c5, rfl, by omega, rfl, by go_num, ?_, ((bel.alloc bel.size _).alloc (bel.alloc bel.size _).size _).grown hg5 ((bel.alloc bel.size _).alloc (bel.alloc bel.size _).size _).size (fun k hk => (own.lt k hk).1)⟩
          rw [HFN.out, HYY.out]
          exact own5
      · have dy := decide_eq_false hy
        have HYY := Lib.hid (show (if y < 1099511627776 then y + d else y) = y by rw [if_neg hy])
        clear hy
        go_wp2_with (at_builtin; refine wpList_append_match (wr.alloc (.cells #[.int .i64 x, .int .i64 y] 37)) rfl (.tmp 45) (.tmp 47) rfl w4.heap.size (.slice F k fc) k (farT (ms.take k) d) rfl (own.alloc _) x y (wr.heap.size + 1) (by simp) rfl (by omega) (bel.alloc bel.size _).size ?_; intro v5 w5 own5 hg5)
        go_roundg (n3 - (k + 1))
        case measure => omega
        case rel =>
          obtain ⟨F5, c5, rfl, -, -⟩ := own_shape own5
          refine ⟨k + 1, F5, c5, rfl, by omega, rfl, by go_num, ?_, ((bel.alloc bel.size _).alloc (bel.alloc bel.size _).size _).grown hg5 ((bel.alloc bel.size _).alloc (bel.alloc bel.size _).size _).size (fun k hk => (own.lt k hk).1)⟩
          rw [HFN.out, HYY.out]
          exact own5
    · obtain rfl : k = n3 := by omega
      have hlk : (farT (ms.take k) d).length = k := by have := own.1; rw [mv_length] at this; omega
      rw [List.take_of_length_le (by rw [HL3.out]; exact Nat.le_refl _)] at own hlk
      have B5 := below_then B4 B4.size bel
      have mo5 := mo.below bel
      obtain ⟨N, hN⟩ : ∃ N, N = agreedT ns ms := ⟨_, rfl⟩
      obtain ⟨N', hN'⟩ : ∃ N, N = agreedT ns (farT ms d) := ⟨_, rfl⟩
      have hNN : decide (N ≤ N') = true := decide_eq_true (by rw [hN, hN']; exact agreed_far ns ms d HD.out.2.1)
      have HG1 := Lib.hid (show ns.length = n ∧ ms.length = k ∧ agreedT ns ms = N from ⟨HL.out, HL3.out, hN.symm⟩)
      have HG2 := Lib.hid (show ns.length = n ∧ (farT ms d).length = k ∧ agreedT ns (farT ms d) = N' from ⟨HL.out, hlk, hN'.symm⟩)
      have hS : (wr.drew.cell? ⟨w.heap.size, 0, none⟩ = some (.slice A n c)) ∧ RI wr.drew A ns ∧ RI wr.drew A4 (some_ ++ more) ∧ RM wr.drew A3 ms ∧ RM wr.drew F (farT ms d) ∧ Below w.heap.size w wr.drew := by
        have hb : Below wr.heap.size wr wr.drew := (Below.refl _ _).drew
        exact ⟨below_cell hb mo5.c1, mo5.r1.below hb, mo5.r2.below hb, mo5.r3.below hb, (RM.own own hlk).below hb, below_then B5 B5.size hb⟩
      clear mo mo5 own B5 hN hN' hlk B4 bel
      cases q with
      | true =>
        have HW2 := Lib.hid (show ns.length = n ∧ (some_ ++ more).length = n1 + n2 ∧ wonB ns (some_ ++ more) = true from ⟨HL.out, by rw [List.length_append, HL1.out, HL2.out], won_more more HQ.out⟩)
        clear HW1
        go_wp2_with fail
        go_region_held3 (fun w' => w'.cell? ⟨w.heap.size, 0, none⟩ = some (.slice A n c) ∧ RI w' A ns ∧ RI w' A4 (some_ ++ more) ∧ RM w' A3 ms ∧ RM w' F (farT ms d) ∧ Below w.heap.size w w')
          (first | assumption | exact mo_keep (by assumption) (by assumption))
          (first
            | (go_at_call 10; refine (won_at true (by go_split_ands; assumption) (by go_split_ands; assumption) HW2 (by omega) (by omega)).mono ?_; rintro e w6 ⟨rfl, b6⟩)
            | (go_at_call 11; refine (agreed_at _ (by go_split_ands; assumption) (by go_split_ands; assumption) (by assumption) (by omega) (by omega)).mono ?_; rintro e w7 ⟨rfl, b7⟩))
        all_goals
          go_split_ands
          go_wp2_with fail
          go_ret
          exact ⟨rfl, by assumption⟩
      | false =>
        go_wp2_with fail
        refine wp_region_Z (fun w' => w'.cell? ⟨w.heap.size, 0, none⟩ = some (.slice A n c) ∧ RI w' A ns ∧ RI w' A4 (some_ ++ more) ∧ RM w' A3 ms ∧ RM w' F (farT ms d) ∧ Below w.heap.size w w') 19 (by kernel_rfl) (by assumption) (fun hHeld => ?_)
        refine wpAnyZ_take (i := 0) (v := ?_) rfl (by kernel_rfl) (by kernel_rfl) (by kernel_rfl) (by kernel_rfl) (by decide) (fun _ _ _ h => h) (by rfl) ?_ (by assumption) ?_
        rotate_left
        · (intro w hSw; (try dsimp only at hSw); go_simp) <;> with_reducible rfl
        try simp only [Act.put, List.getElem_toArray, List.getElem_cons_zero, List.getElem_cons_succ, List.setIfInBounds_toArray, List.set_cons_zero, List.set_cons_succ]
        refine wpAnyZ_take (i := 1) (v := ?_) rfl (by kernel_rfl) (by kernel_rfl) (by kernel_rfl) (by kernel_rfl) (by decide) (fun _ _ _ h => h) (by rfl) ?_ (by assumption) ?_
        rotate_left
        · (intro w hSw; (try dsimp only at hSw); go_simp) <;> with_reducible rfl
        try simp only [Act.put, List.getElem_toArray, List.getElem_cons_zero, List.getElem_cons_succ, List.setIfInBounds_toArray, List.set_cons_zero, List.set_cons_succ]
        refine wpAnyZ_take (i := 2) (v := ?_) rfl (by kernel_rfl) (by kernel_rfl) (by kernel_rfl) (by kernel_rfl) (by decide) (fun _ _ _ h => h) (by rfl) ?_ (by assumption) ?_
        rotate_left
        · (intro w hSw; (try dsimp only at hSw); go_simp) <;> with_reducible rfl
        try simp only [Act.put, List.getElem_toArray, List.getElem_cons_zero, List.getElem_cons_succ, List.setIfInBounds_toArray, List.set_cons_zero, List.set_cons_succ]
        refine wpAnyZ_take (i := 3) (v := ?_) rfl (by kernel_rfl) (by kernel_rfl) (by kernel_rfl) (by kernel_rfl) (by decide) (fun _ _ _ h => h) (by rfl) ?_ (by assumption) ?_
        rotate_left
        · (intro w hSw; (try dsimp only at hSw); go_simp) <;> with_reducible rfl
        try simp only [Act.put, List.getElem_toArray, List.getElem_cons_zero, List.getElem_cons_succ, List.setIfInBounds_toArray, List.set_cons_zero, List.set_cons_succ]
        refine wpAnyZ_take (i := 4) (v := ?_) rfl (by kernel_rfl) (by kernel_rfl) (by kernel_rfl) (by kernel_rfl) (by decide) (fun _ _ _ h => h) (by rfl) ?_ (by assumption) ?_
        rotate_left
        · (intro w hSw; (try dsimp only at hSw); go_simp) <;> with_reducible rfl
        try simp only [Act.put, List.getElem_toArray, List.getElem_cons_zero, List.getElem_cons_succ, List.setIfInBounds_toArray, List.set_cons_zero, List.set_cons_succ]
        refine wpAnyZ_skip (i := 5) rfl (by kernel_rfl) (by kernel_rfl) (by kernel_rfl) (by kernel_rfl) (by decide) (fun _ _ _ h => h) (by rfl) (by assumption) ?_
        try simp only [Act.put, List.getElem_toArray, List.getElem_cons_zero, List.getElem_cons_succ, List.setIfInBounds_toArray, List.set_cons_zero, List.set_cons_succ]
        refine wpAnyZ_skip (i := 6) rfl (by kernel_rfl) (by kernel_rfl) (by kernel_rfl) (by kernel_rfl) (by decide) (fun _ _ _ h => h) (by rfl) (by assumption) ?_
        try simp only [Act.put, List.getElem_toArray, List.getElem_cons_zero, List.getElem_cons_succ, List.setIfInBounds_toArray, List.set_cons_zero, List.set_cons_succ]
        refine wpAnyZ_skip (i := 7) rfl (by kernel_rfl) (by kernel_rfl) (by kernel_rfl) (by kernel_rfl) (by decide) (fun _ _ _ h => h) (by rfl) (by assumption) ?_
        try simp only [Act.put, List.getElem_toArray, List.getElem_cons_zero, List.getElem_cons_succ, List.setIfInBounds_toArray, List.set_cons_zero, List.set_cons_succ]
        refine wpAnyZ_take (i := 8) (v := ?_) rfl (by kernel_rfl) (by kernel_rfl) (by kernel_rfl) (by kernel_rfl) (by decide) (fun _ _ _ h => h) (by rfl) ?_ (by assumption) ?_
        rotate_left
        · (intro w hSw; (try dsimp only at hSw); go_simp) <;> with_reducible rfl
        try simp only [Act.put, List.getElem_toArray, List.getElem_cons_zero, List.getElem_cons_succ, List.setIfInBounds_toArray, List.set_cons_zero, List.set_cons_succ]
        refine wpAnyZ_take (i := 9) (v := ?_) rfl (by kernel_rfl) (by kernel_rfl) (by kernel_rfl) (by kernel_rfl) (by decide) (fun _ _ _ h => h) (by rfl) ?_ (by assumption) ?_
        rotate_left
        · (intro w hSw; (try dsimp only at hSw); go_simp) <;> with_reducible rfl
        try simp only [Act.put, List.getElem_toArray, List.getElem_cons_zero, List.getElem_cons_succ, List.setIfInBounds_toArray, List.set_cons_zero, List.set_cons_succ]
        refine wpAnyZ_take (i := 10) (v := ?_) rfl (by kernel_rfl) (by kernel_rfl) (by kernel_rfl) (by kernel_rfl) (by decide) (fun _ _ _ h => h) (by rfl) ?_ (by assumption) ?_
        rotate_left
        · (intro w hSw; (try dsimp only at hSw); go_simp) <;> with_reducible rfl
        try simp only [Act.put, List.getElem_toArray, List.getElem_cons_zero, List.getElem_cons_succ, List.setIfInBounds_toArray, List.set_cons_zero, List.set_cons_succ]
        refine wpAnyZ_take (i := 11) (v := ?_) rfl (by kernel_rfl) (by kernel_rfl) (by kernel_rfl) (by kernel_rfl) (by decide) (fun _ _ _ h => h) (by rfl) ?_ (by assumption) ?_
        rotate_left
        · (intro w hSw; (try dsimp only at hSw); go_simp) <;> with_reducible rfl
        try simp only [Act.put, List.getElem_toArray, List.getElem_cons_zero, List.getElem_cons_succ, List.setIfInBounds_toArray, List.set_cons_zero, List.set_cons_succ]
        refine wpAnyZ_take (i := 12) (v := ?_) rfl (by kernel_rfl) (by kernel_rfl) (by kernel_rfl) (by kernel_rfl) (by decide) (fun _ _ _ h => h) (by rfl) ?_ (by assumption) ?_
        rotate_left
        · (intro w hSw; (try dsimp only at hSw); go_simp) <;> with_reducible rfl
        try simp only [Act.put, List.getElem_toArray, List.getElem_cons_zero, List.getElem_cons_succ, List.setIfInBounds_toArray, List.set_cons_zero, List.set_cons_succ]
        refine wpAnyZ_take (i := 14) (v := ?_) rfl (by kernel_rfl) (by kernel_rfl) (by kernel_rfl) (by kernel_rfl) (by decide) (fun _ _ _ h => h) (by rfl) ?_ (by assumption) ?_
        rotate_left
        · (intro w hSw; (try dsimp only at hSw); go_simp) <;> with_reducible rfl
        try simp only [Act.put, List.getElem_toArray, List.getElem_cons_zero, List.getElem_cons_succ, List.setIfInBounds_toArray, List.set_cons_zero, List.set_cons_succ]
        refine wpAnyZ_take (i := 15) (v := ?_) rfl (by kernel_rfl) (by kernel_rfl) (by kernel_rfl) (by kernel_rfl) (by decide) (fun _ _ _ h => h) (by rfl) ?_ (by assumption) ?_
        rotate_left
        · (intro w hSw; (try dsimp only at hSw); go_simp) <;> with_reducible rfl
        try simp only [Act.put, List.getElem_toArray, List.getElem_cons_zero, List.getElem_cons_succ, List.setIfInBounds_toArray, List.set_cons_zero, List.set_cons_succ]
        refine wpAnyZ_step (i := 13) rfl (by kernel_rfl) (fun K hK => ?_)
        go_simp
        refine (agreed_at _ (by go_split_ands; assumption) (by go_split_ands; assumption) (by assumption) (by omega) (by omega)).mono ?_
        rintro e w7 ⟨rfl, b7⟩
        have hS7 := mo_keep b7 hHeld
        refine hK.out _ _ (fun _ => hS7) ?_
        clear hK K
        try simp only [Act.put, List.getElem_toArray, List.getElem_cons_zero, List.getElem_cons_succ, List.setIfInBounds_toArray, List.set_cons_zero, List.set_cons_succ]
        refine wpAnyZ_step (i := 16) rfl (by kernel_rfl) (fun K hK => ?_)
        go_simp
        refine (agreed_at _ (by go_split_ands; assumption) (by go_split_ands; assumption) (by assumption) (by omega) (by omega)).mono ?_
        rintro e w8 ⟨rfl, b8⟩
        have hS8 := mo_keep b8 hS7
        refine hK.out _ _ (fun _ => hS8) ?_
        clear hK K
        try simp only [Act.put, List.getElem_toArray, List.getElem_cons_zero, List.getElem_cons_succ, List.setIfInBounds_toArray, List.set_cons_zero, List.set_cons_succ]
        refine wpAnyZ_take (i := 17) (v := ?_) rfl (by kernel_rfl) (by kernel_rfl) (by kernel_rfl) (by kernel_rfl) (by decide) (fun _ _ _ h => h) (by rfl) ?_ (by assumption) ?_
        rotate_left
        · (intro w hSw; (try dsimp only at hSw); go_simp) <;> with_reducible rfl
        try simp only [Act.put, List.getElem_toArray, List.getElem_cons_zero, List.getElem_cons_succ, List.setIfInBounds_toArray, List.set_cons_zero, List.set_cons_succ]
        refine wpAnyZ_take (i := 18) (v := ?_) rfl (by kernel_rfl) (by kernel_rfl) (by kernel_rfl) (by kernel_rfl) (by decide) (fun _ _ _ h => h) (by rfl) ?_ (by assumption) ?_
        rotate_left
        · (intro w hSw; (try dsimp only at hSw); go_simp) <;> with_reducible rfl
        try simp only [Act.put, List.getElem_toArray, List.getElem_cons_zero, List.getElem_cons_succ, List.setIfInBounds_toArray, List.set_cons_zero, List.set_cons_succ]
        refine wpAnyZ_step (i := 19) rfl (by kernel_rfl) (fun K hK => ?_)
        go_simp
        refine hK.out _ _ (fun h => absurd rfl h) ?_
        clear hK K
        try simp only [Act.put, List.getElem_toArray, List.getElem_cons_zero, List.getElem_cons_succ, List.setIfInBounds_toArray, List.set_cons_zero, List.set_cons_succ]
        refine wpAnyZ_done (by kernel_rfl) ?_
        refine NoPanic.normal ?_
        go_wp2_with fail
        go_ret
        exact ⟨rfl, by go_split_ands; assumption⟩

theorem quorumMore_row (A : Option Addr) (c : Nat) (ns : List Int) (A1 : Option Addr) (c1 : Nat) (some_ : List Int) (A2 : Option Addr) (c2 : Nat) (more : List Int) (A3 : Option Addr) (c3 : Nat) (ms : List (Int × Int)) (by_ : Int) (w : World)
    (hn : ns.length ≤ 1048576) (hr : RI w A ns) (hn1 : some_.length ≤ 1048576) (hr1 : RI w A1 some_) (ha1 : A1 = none → c1 = 0) (hn2 : more.length ≤ 1048576) (hr2 : RI w A2 more) (ha2 : A2 = none → c2 = 0)
    (hn3 : ms.length ≤ 1048576) (hr3 : RM w A3 ms) (hw3 : ∀ m ∈ ms, (Lit.int .i64 m.2).wf = true) (wb : (Lit.int .i64 by_).wf = true) :
    Calls Try.prog 6 #[.agg #[.slice A ns.length c], .slice A1 some_.length c1, .slice A2 more.length c2, .slice A3 ms.length c3, .int .i64 by_] w fun e w' => e = .returned (.bool true) ∧ Below w.heap.size w w' :=
  more_walk A _ c ns A1 _ c1 some_ A2 _ c2 more A3 _ c3 ms by_ _ w _ hr rfl hn hr1 rfl hn1 ha1 hr2 rfl hn2 ha2 hr3 rfl hn3 hw3 wb rfl rfl
end Go.Proofs.Ytaopipghooaekaa
