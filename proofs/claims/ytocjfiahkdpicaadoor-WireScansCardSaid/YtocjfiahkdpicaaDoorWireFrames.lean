/- muntinlaw01.WireFrames is true, whatever the bytes: the law's own walk. -/
import Derived.Test.YtocjfiahkdpicaaDoorWireNums
import Derived.Test.YtocjfiahkdpicaaDoorRefOpen
import Derived.Test.YtocjfiahkdpicaaDoorBackHead
import Derived.Laws.OwnMore
set_option linter.unusedVariables false
set_option linter.unusedSimpArgs false
namespace Go.Proofs.YtocjfiahkdpicaaDoor
open Go.RowKit

theorem own_at {w : World} {base n c : Nat} {e : TypeId} {A : Option Addr} {xs : List Value} (h : w.ownsRow base e 1 (.slice A n c) n xs) (h0 : 0 < n) :
    ∃ g, A = some ⟨g, 0, none⟩ ∧ base ≤ g ∧ g < w.heap.size ∧ ∀ j, j < n → w.cell? ⟨g, j, none⟩ = xs[j]? := by
  rcases h.2 with ⟨h1, _⟩ | ⟨g, cap, cur, h1, r⟩
  · injection h1 with _ h2 _
    omega
  · injection h1 with h2 _ h3
    subst h2; subst h3
    obtain ⟨l1, l2⟩ := h.lt g rfl
    exact ⟨g, rfl, l1, l2, fun j hj => h.cellAt j (by omega)⟩
def frameE (p : List UInt8) : Nat := if 1048576 < p.length then 2 else 0
def frameB (p : List UInt8) : List UInt8 := if 1048576 < p.length then [] else frame p
theorem frame_all (A : Option Addr) (c : Nat) (bs : List UInt8) (w : World) (hn : bs.length ≤ 140737488351232) (hr : RB w A bs) :
    Calls Tryd.prog 12 #[.slice A bs.length c] w fun e w' => ∃ v, e = .returned (.tuple #[v, errV (frameE bs)]) ∧ w'.ownsRow w.heap.size 5 1 v (frameB bs).length (bv (frameB bs)) ∧ Below w.heap.size w w' := by
  by_cases h : 1048576 < bs.length
  · refine (frame_long A bs.length c w h hn).mono ?_
    rintro e w' ⟨rfl, rfl⟩
    exact ⟨_, by simp only [frameE, if_pos h]; rfl, by simp only [frameB, if_pos h]; exact World.ownsRow_nil _ _ _ _, Below.refl _ _⟩
  · refine (frame_any A c bs w (by omega) hr).mono ?_
    rintro e w' ⟨rfl, hg, b⟩
    have hfl := frame_length bs
    refine ⟨.slice (some ⟨w.heap.size, 0, none⟩) (frame bs).length (frame bs).length, by simp only [frameE, if_neg h]; rfl, ?_, b⟩
    simp only [frameB, if_neg h]
    exact ⟨by simp, .inr ⟨w.heap.size, (frame bs).length, mem (bv (frame bs)), rfl, Nat.le_refl _, hg, Nat.le_refl _, by unfold maxLen; omega, by simp, by rw [mem_toList, List.take_of_length_le (by simp)]⟩⟩
theorem rframe_all (A : Option Addr) (c : Nat) (bs : List UInt8) (w : World) (hn : bs.length ≤ 140737488351232) (hr : RB w A bs) (hA : A = none → c = 0) :
    Calls Tryd.prog 13 #[.slice A bs.length c] w fun e w' => ∃ v, e = .returned (.tuple #[v, .int .i64 (frameE bs)]) ∧ w'.ownsRow w.heap.size 5 1 v (frameB bs).length (bv (frameB bs)) ∧ Below w.heap.size w w' := by
  by_cases h : 1048576 < bs.length
  · refine (rframe_long A bs.length c w h hn).mono ?_
    rintro e w' ⟨rfl, rfl⟩
    exact ⟨_, by simp only [frameE, if_pos h]; rfl, by simp only [frameB, if_pos h]; exact World.ownsRow_nil _ _ _ _, Below.refl _ _⟩
  · refine (rframe_any A c bs w (by omega) hr hA).mono ?_
    rintro e w' ⟨v, rfl, own, b⟩
    exact ⟨v, by simp only [frameE, if_neg h]; rfl, by simp only [frameB, if_neg h]; exact own, b⟩
/-- what two worlds share outside some of the old blocks -/
structure Kept2 (S : Nat → Prop) (w w' : World) : Prop where
  os : w'.os = w.os
  tape : w'.tape = w.tape
  output : w'.output = w.output
  size : w.heap.size ≤ w'.heap.size
  block : ∀ k, k < w.heap.size → ¬ S k → w'.heap[k]? = w.heap[k]?
theorem Kept2.refl (S : Nat → Prop) (w : World) : Kept2 S w w := ⟨rfl, rfl, rfl, Nat.le_refl _, fun _ _ _ => rfl⟩
theorem Kept2.below {S : Nat → Prop} {a b c : World} (h : Kept2 S a b) (k : Below b.heap.size b c) : Kept2 S a c :=
  ⟨k.os.trans h.os, k.tape.trans h.tape, k.output.trans h.output, Nat.le_trans h.size k.size, fun i hi hs => (k.block i (Nat.lt_of_lt_of_le hi h.size)).trans (h.block i hi hs)⟩
theorem Kept2.out {S T : Nat → Prop} {a b c : World} (h : Kept2 S a b) (k : Out T b c) (ht : ∀ i, i < a.heap.size → T i → S i) : Kept2 S a c :=
  ⟨k.os.trans h.os, k.tape.trans h.tape, k.output.trans h.output, by rw [k.size]; exact h.size, fun i hi hs => (k.block i fun t => hs (ht i hi t)).trans (h.block i hi hs)⟩
theorem Kept2.mk_below {S : Nat → Prop} {B : Nat} {a b c : World} (h : Below B a b) (k : Kept2 S b c) (hB : B ≤ b.heap.size) (hs : ∀ i, i < B → ¬ S i) : Below B a c :=
  ⟨k.os.trans h.os, k.tape.trans h.tape, k.output.trans h.output, Nat.le_trans h.size k.size, fun i hi => (k.block i (Nat.lt_of_lt_of_le hi hB) (hs i hi)).trans (h.block i hi)⟩
theorem Kept2.rb {S : Nat → Prop} {a b : World} {A : Option Addr} {bs : List UInt8} (h : Kept2 S a b) (r : RB a A bs) (hs : ∀ x, A = some x → 0 < bs.length → ¬ S x.block) : RB b A bs :=
  r.step fun x hx h0 => h.block _ (r.lt hx h0) (hs x hx h0)

set_option maxRecDepth 100000 in
set_option maxHeartbeats 4000000 in
theorem wireFrames_walk (A : Option Addr) (c : Nat) (ps : List UInt8) (B : Option Addr) (d : Nat) (ms : List UInt8) (w : World) (hl : ps.length ≤ c) (hc : c ≤ 140737488351232) (hr : RB w A ps) (hA : A = none → c = 0)
    (hl2 : ms.length ≤ d) (hd : d ≤ 140737488351232) (hr2 : RB w B ms) (hB : B = none → d = 0) (hE : ErrT w) :
    Calls Tryd.prog 4 #[.slice A ps.length c, .slice B ms.length d] w fun e w' => e = .returned (.bool true) ∧ Below w.heap.size w w' := by
  by_cases hm : 1048576 < ms.length
  · have hml : decide ((1048576 : Int) < (ms.length : Int)) = true := decide_eq_true (by omega)
    go_enter Tryd.func4, Tryd.ntmps4
    go_wp2_with fail
    go_ret
    exact ⟨rfl, Below.refl _ _⟩
  · by_cases hp : 2097152 < ps.length
    · have hml : decide ((1048576 : Int) < (ms.length : Int)) = false := decide_eq_false (by omega)
      have hpl : decide ((2097152 : Int) < (ps.length : Int)) = true := decide_eq_true (by omega)
      go_enter Tryd.func4, Tryd.ntmps4
      go_wp2_with fail
      go_ret
      exact ⟨rfl, Below.refl _ _⟩
    · have hml : decide ((1048576 : Int) < (ms.length : Int)) = false := decide_eq_false (by omega)
      have hpl : decide ((2097152 : Int) < (ps.length : Int)) = false := decide_eq_false (by omega)
      have hn : ps.length ≤ 140737488351232 := by omega
      have hfi := fun A c w => frame_all A c ps w hn
      have hri := fun A c w => rframe_all A c ps w hn
      have hfin : (frameE ps = 0 ∧ (frameB ps).length = ps.length + 8 ∧ ps.length ≤ 1048576) ∨ (frameE ps = 2 ∧ (frameB ps).length = 0) := by
        by_cases h : 1048576 < ps.length
        · right; simp [frameE, frameB, h]
        · left; simp only [frameE, frameB, if_neg h, frame_length]; exact ⟨trivial, trivial, by omega⟩
      generalize frameE ps = cn at hfi hri hfin
      generalize frameB ps = F at hfi hri hfin
      have hFl : F.length ≤ 1048584 := by omega
      have HFIN := Lib.hid hfin
      have hmn : ms.length ≤ 1048576 := by omega
      have hpn : ps.length ≤ 2097152 := by omega
      clear hfin hm hp
      go_enter Tryd.func4, Tryd.ntmps4
      go_wp2_with fail
      refine (lent_any A c ps w hn hr).mono ?_
      rintro e w1 ⟨rfl, hw1⟩
      have b1 : Below w.heap.size w w1 := by rw [hw1]; exact below_alloc _ _
      have r1 : RB w1 (some ⟨w.heap.size, 0, none⟩) ps := by rw [hw1]; exact RB.new _ _ _ _
      have c1 : w1.cell? ⟨w.heap.size, ps.length, none⟩ = some (.int .u8 77) := by rw [hw1]; exact cell_new _ _ _ _ _ (by simp)
      have C1 := Lib.hid c1
      clear hw1 c1
      go_wp2_with fail
      refine (hfi _ _ w1 r1).mono ?_
      rintro e w2 ⟨va, rfl, oa, b2⟩
      obtain ⟨Va, ca, rfl, hca, hVa⟩ := own_shape oa
      have bel2 := below_then b1 b1.size b2
      have r2 := r1.below b2
      have C2 := Lib.hid (below_cell b2 C1.out)
      have S1 := Lib.hid b1.size
      clear r1 C1 b1 hfi
      go_wp2_with fail
      refine (hri A c w2 (hr.below bel2) hA).mono ?_
      rintro e w3 ⟨vw, rfl, ow, b3⟩
      obtain ⟨Vw, cw, rfl, hcw, hVw⟩ := own_shape ow
      have bel3 := below_then bel2 bel2.size b3
      have r3 := r2.below b3
      have oa3 := own_below oa b3
      have HAW := Lib.hid (own_apart oa ow (Nat.le_refl _))
      have C3 := Lib.hid (below_cell b3 C2.out)
      have S2 := Lib.hid (Nat.le_trans bel2.size (Nat.le_refl _))
      clear r2 oa C2 bel2 b2 hri
      go_wp2_with fail
      refine (kept_any _ _ _ c ps w3 _ rfl r3 (hr.below bel3) (Nat.le_refl _) hn C3.out).mono ?_
      rintro e w' ⟨rfl, rfl⟩
      have s1 := run_str w' Va F ca (RB.own oa3) 9 Tryd.underlying9
      have s2 := run_str w' Vw F cw (RB.own ow) 9 Tryd.underlying9
      have s3 : (F == F) = true := by simp
      clear r3 C3
      go_wp2_with fail
      refine (code_any cn w' (hE.below bel3)).mono ?_
      rintro e w4 ⟨rfl, b4⟩
      have bel4 := below_then bel3 bel3.size b4
      have oa4 := own_below oa3 b4
      have ow4 := own_below ow b4
      have rw4 := RB.own ow4
      clear oa3 ow s1 s2 b3 bel3 b4
      have rm4 := hr2.below bel4
      have own0 : (w4.alloc (.cells #[] 5)).ownsRow w4.heap.size 5 1 (.slice (some ⟨w4.heap.size, 0, none⟩) 0 0) 0 (bv []) := own_new w4 [] 5 (by decide)
      have hfin2 : (cn = 0 ∧ ((F.length : Int) != (ps.length : Int) + 8) = false) ∨ cn = 2 := by
        rcases HFIN.out with ⟨h1, h2, _⟩ | ⟨h1, _⟩
        · exact .inl ⟨h1, by rw [bne_eq_false_iff_eq]; omega⟩
        · exact .inr h1
      clear HFIN
      rcases hfin2 with ⟨rfl, hne⟩ | rfl
      all_goals
        go_wp2_with (first
          | (at_builtin; refine wpList_append_bytes rfl (.tmp 74) (.tmp 75) rfl w4.heap.size (.slice (some ⟨w4.heap.size, 0, none⟩) 0 0) [] F 0 F.length cw Vw rfl rfl own0 (rw4.alloc _) rfl hVw rfl (by omega) (by simp) ?_
             intro v5 w5 o5 hg5
             have b5 : Below w4.heap.size w4 w5 := (below_alloc w4 _).grown hg5 (by simp) (fun q hq => (own0.lt q hq).1)
             obtain ⟨n5, hn5⟩ : ∃ n, n = 0 + F.length := ⟨_, rfl⟩
             rw [← hn5] at o5
             have hn5b : n5 ≤ 1048584 := by omega
             have HN5 := Lib.hid (show F.length = n5 by omega)
             clear hn5)
          | (at_builtin; refine wpList_append_bytes rfl (.tmp 76) (.tmp 77) rfl w4.heap.size v5 ([] ++ F) ms n5 ms.length d B rfl rfl o5 (rm4.below b5) rfl hB (by rw [List.nil_append]; exact HN5.out) (by omega) b5.size ?_
             intro v6 w6 o6 hg6
             have b6 : Below w4.heap.size w4 w6 := b5.grown hg6 b5.size (fun q hq => (o5.lt q hq).1)
             obtain ⟨n6, hn6⟩ : ∃ n, n = n5 + ms.length := ⟨_, rfl⟩
             obtain ⟨V6, c6, rfl, hc6, hV6⟩ := own_shape o6
             rw [← hn6] at o6 hc6 ⊢
             have hn6b : n6 ≤ 2097160 := by omega
             have HN6 := Lib.hid hn6
             clear hn6))
        have bel6 : Below w.heap.size w w6 := below_then bel4 bel4.size b6
        have oa6 := own_below oa4 b6
        have r6 := RB.own o6
        have HN5' := HN5.out
        have ln6 : ([] ++ F ++ ms).length = n6 := by rw [HN6.out]; simp; omega
        have ha6 : ∀ k, (Value.slice Va F.length ca).ownBlock = some k → w.heap.size ≤ k ∧ k < w4.heap.size := fun k h => ⟨Nat.le_trans S1.out (oa4.lt k h).1, (oa4.lt k h).2⟩
        have h6a : ∀ x, V6 = some x → 0 < ([] ++ F ++ ms).length → x.block < w6.heap.size ∧ (Value.slice Va F.length ca).ownBlock ≠ some x.block := by
          intro x hx h0
          refine ⟨r6.lt hx h0, fun h => ?_⟩
          obtain ⟨g6, hg6', hgb, hgl, _⟩ := own_at o6 (by omega)
          rw [hx] at hg6'
          obtain rfl := Option.some.inj hg6'
          have h7 : g6 < w4.heap.size := (ha6 _ h).2
          exact absurd h7 (by omega)
        have hrows : ∀ i, i < 3 → ∃ X l cx xs, #[Value.slice A ps.length c, .slice B ms.length d, .slice V6 n6 c6][i]? = some (.slice X l cx) ∧ xs.length = l ∧ l ≤ cx ∧ l ≤ 4194304 ∧ RB w6 X xs ∧ (∀ x, X = some x → 0 < xs.length → x.block < w6.heap.size ∧ (Value.slice Va F.length ca).ownBlock ≠ some x.block) := by
          intro i hi
          rcases (show i = 0 ∨ i = 1 ∨ i = 2 by omega) with rfl | rfl | rfl
          · exact ⟨A, _, c, ps, rfl, rfl, hl, by omega, hr.below bel6, fun x hx h0 => ⟨(hr.below bel6).lt hx h0, fun h => by have := (ha6 _ h).1; have := hr.lt hx h0; omega⟩⟩
          · exact ⟨B, _, d, ms, rfl, rfl, hl2, by omega, hr2.below bel6, fun x hx h0 => ⟨(hr2.below bel6).lt hx h0, fun h => by have := (ha6 _ h).1; have := hr2.lt hx h0; omega⟩⟩
          · exact ⟨V6, _, c6, _, rfl, ln6, hc6, by omega, r6, h6a⟩
        clear o6 r6 hr2 rm4 rw4 ow4 own0 oa4 ln6 h6a HN5' o5 b5 hg5 hg6 b6
        have hra : Room w6 (Value.slice Va F.length ca) False 0 := Room.own oa6
        have HRW := Lib.hid hrows
        have HA6 := Lib.hid ha6
        clear hrows ha6 oa6
        go_wp2_with fail
        obtain ⟨w7, hw7⟩ : ∃ x, x = w6.alloc (.cells #[Value.slice A ps.length c, .slice B ms.length d, .slice V6 n6 c6] 22) := ⟨_, rfl⟩
        have hb7 : Below w6.heap.size w6 w7 := by rw [hw7]; exact below_alloc _ _
        have hz7 : w7.heap.size = w6.heap.size + 1 := by rw [hw7]; simp
        have hc7 : ∀ i, w7.cell? ⟨w6.heap.size, i, none⟩ = #[Value.slice A ps.length c, .slice B ms.length d, .slice V6 n6 c6][i]? := fun i => by
          rw [hw7]
          simp only [World.cell?, heap_alloc_new, Option.isSome_none, Bool.false_eq_true, ↓reduceIte]
        rw [← hw7]
        have HZ7 := Lib.hid hz7
        have HC7 := Lib.hid hc7
        clear hw7 hz7 hc7
        obtain ⟨va, hva⟩ : ∃ v, v = Value.slice Va F.length ca := ⟨_, rfl⟩
        rw [← hva] at hra HA6 HRW
        have HVA := Lib.hid hva
        have hra7 : Room w7 va False 0 := hra.step (fun k hk => hb7.block k (hra.lt k hk)) (fun h => h)
        have hlt6 := hra.lt
        have bel7 := bel6.trans (hb7.mono bel6.size)
        have HLT := Lib.hid hlt6
        have HB7 := Lib.hid hb7
        have HBEL := Lib.hid bel7
        have HS7 := Lib.hid (Nat.le_trans bel6.size hb7.size)
        clear hlt6 hb7 bel7 bel6 bel4 hva hr HAW
        go_loopg [12] 3 (fun m ti wr => ∃ i : Nat, m = 3 - i ∧ i ≤ 3 ∧ ti = .int .i64 (i : Nat) ∧ Kept2 (fun k => va.ownBlock = some k) w7 wr ∧ Room wr va False 0)
        case atStart => exact ⟨0, by omega, by omega, rfl, Kept2.refl _ _, hra7⟩
        case round =>
          clear hra7 hra
          obtain ⟨i, hm, hi, rfl, hk, hrv⟩ := hrel
          have belr : Below w.heap.size w wr := Kept2.mk_below HBEL.out hk HS7.out (fun j hj h => by have := (HA6.out j h).1; omega)
          by_cases hi3 : i < 3
          · obtain ⟨X, l, cx, xs, hXi, hXl, hXc, hXb, hXr, hXs⟩ := HRW.out i hi3
            have hcell : wr.cell? ⟨w6.heap.size, i, none⟩ = some (.slice X l cx) := by
              rw [cell_block (w := w7) (hk.block w6.heap.size (by have := HZ7.out; omega) (fun h => by have := HLT.out _ h; omega)), HC7.out, hXi]
            have rX : RB wr X xs := hk.rb (hXr.below HB7.out) (fun x hx h0 => (hXs x hx h0).2)
            subst hXl
            clear hXi hXr hXs
            have hi31 : (i : Int) < 3 := by omega
            have hxn : xs.length ≤ 140737488351232 := by omega
            have HRB := Lib.hid (hE.below belr)
            go_wp2_with fail
            refine (lent_any X cx xs wr hxn rX).mono ?_
            rintro e u1 ⟨rfl, hw1⟩
            have b1 : Below wr.heap.size wr u1 := by rw [hw1]; exact below_alloc _ _
            have r1 : RB u1 (some ⟨wr.heap.size, 0, none⟩) xs := by rw [hw1]; exact RB.new _ _ _ _
            have c1 : u1.cell? ⟨wr.heap.size, xs.length, none⟩ = some (.int .u8 77) := by rw [hw1]; exact cell_new _ _ _ _ _ (by simp)
            have o1 : u1.ownsRow wr.heap.size 5 1 (.slice (some ⟨wr.heap.size, 0, none⟩) xs.length (xs.length + 1)) xs.length (bv xs) := by rw [hw1]; exact lent_own wr xs hxn
            have D1 := Lib.hid c1
            clear hw1 c1
            go_wp2_with fail
            refine (open_any _ _ _ xs u1 rfl (by omega) hxn r1).mono ?_
            rintro e u2 ⟨vo, rfl, oo, b2⟩
            obtain ⟨Vo, co, rfl, hco, hVo⟩ := own_shape oo
            have k2 := below_then b1 b1.size b2
            have r2 := r1.below b2
            have o2 := own_below o1 b2
            have D2 := Lib.hid (below_cell b2 D1.out)
            have HLO := Lib.hid (own_apart o1 oo (Nat.le_refl _))
            have T1 := Lib.hid b1.size
            have hcell2 := below_cell k2 hcell
            clear r1 o1 D1 b1
            go_wp2_with fail
            refine (ropen_any X _ cx xs u2 rfl hXc hxn (rX.below k2)).mono ?_
            rintro e u3 ⟨vu, rfl, ou, b3⟩
            obtain ⟨Vu, cu, rfl, hcu, hVu⟩ := own_shape ou
            have k3 := below_then k2 k2.size b3
            have r3 := r2.below b3
            have o3 := own_below o2 b3
            have oo3 := own_below oo b3
            have D3 := Lib.hid (below_cell b3 D2.out)
            have hcell3 := below_cell k3 hcell
            clear r2 o2 D2 k2 b2 oo b3 hcell2
            go_wp2_with fail
            refine (kept_any _ _ _ cx xs u3 _ rfl r3 (rX.below k3) (Nat.le_refl _) hxn D3.out).mono ?_
            rintro e u4 ⟨rfl, hu4⟩
            obtain rfl := hu4
            have s1 := run_str u4 Vo (openP xs) co (RB.own oo3) 9 Tryd.underlying9
            have s2 := run_str u4 Vu (openP xs) cu (RB.own ou) 9 Tryd.underlying9
            have s4 : (openP xs == openP xs) = true := by simp
            have hvl := hrv.lt
            have hpw : [va, Value.slice Vo (openP xs).length co, .slice (some ⟨wr.heap.size, 0, none⟩) xs.length (xs.length + 1)].Pairwise fun u v => ∀ k, u.ownBlock = some k → v.ownBlock ≠ some k := by
              refine List.pairwise_cons.2 ⟨?_, List.pairwise_cons.2 ⟨?_, List.pairwise_singleton _ _⟩⟩
              · intro u hu k h1 h2
                simp only [List.mem_cons, List.not_mem_nil, or_false] at hu
                have h3 := hvl k h1
                rcases hu with rfl | rfl
                · have := (oo3.lt k h2).1; have := T1.out; omega
                · have := (o3.lt k h2).1; omega
              · intro u hu k h1 h2
                simp only [List.mem_cons, List.not_mem_nil, or_false] at hu
                subst hu
                exact HLO.out k h2 h1
            have hrm : ∀ v ∈ [va, Value.slice Vo (openP xs).length co, .slice (some ⟨wr.heap.size, 0, none⟩) xs.length (xs.length + 1)], Room u4 v False 0 := by
              intro v hv
              simp only [List.mem_cons, List.not_mem_nil, or_false] at hv
              rcases hv with rfl | rfl | rfl
              · exact hrv.step (fun k hk => k3.block k (hvl k hk)) (fun h => h)
              · exact Room.own oo3
              · exact Room.own o3
            have hT : ∀ j, j < w7.heap.size → OwnB [va, Value.slice Vo (openP xs).length co, .slice (some ⟨wr.heap.size, 0, none⟩) xs.length (xs.length + 1)] j → va.ownBlock = some j := by
              rintro j hj ⟨v, hv, h⟩
              simp only [List.mem_cons, List.not_mem_nil, or_false] at hv
              rcases hv with rfl | rfl | rfl
              · exact h
              · have := (oo3.lt j h).1; have := T1.out; have := hk.size; omega
              · have := (o3.lt j h).1; have := hk.size; omega
            have how := owned_lit _ #[va, Value.slice Vo (openP xs).length co, .slice (some ⟨wr.heap.size, 0, none⟩) xs.length (xs.length + 1)] 3 u4 rfl rfl (by omega) hrm hpw
            have hk3 := hk.below k3
            have hg4 := Lib.hid (HRB.out.below k3)
            have hsz4 : w7.heap.size ≤ u4.heap.size := hk3.size
            have hz : 0 < w.heap.size := World.block_lt_of_cell? _ _ hE
            clear hpw hrm hk hrv oo3 o3 ou r3 rX hcell3 hcell D3 k3 hvl
            rw [HVA.out] at how hT
            go_wp2_with fail
            refine how.mono ?_
            rintro e u5 ⟨rfl, hout, hro⟩
            have hk5 := (hk3.below (below_alloc u4 _)).out hout (fun j hj h => by rw [HVA.out]; exact hT j hj h)
            have hra5 : Room u5 va False 0 := by rw [HVA.out]; exact (hro 0 (by simp)).zero (fun h => h)
            have bel5 : Below w.heap.size w u5 := Kept2.mk_below HBEL.out hk5 HS7.out (fun j hj h => by have := (HA6.out j h).1; omega)
            clear how hout hro hT hk3 s1 s2
            go_wp2_with fail
            refine (code_any (openE xs) u5 (hE.below bel5)).mono ?_
            rintro e u6 ⟨rfl, b6'⟩
            have hk6 := hk5.below b6'
            have hra6 : Room u6 va False 0 := hra5.step (fun k hk => b6'.block k (hra5.lt k hk)) (fun h => h)
            clear hk5 hra5 bel5 b6'
            go_wp2_with fail
            go_roundg (3 - (i + 1))
            case measure => omega
            case rel => exact ⟨i + 1, rfl, by omega, by go_num, hk6, hra6⟩
          · obtain rfl : i = 3 := by omega
            go_wp2_with fail
            go_ret
            exact ⟨rfl, belr⟩
end Go.Proofs.YtocjfiahkdpicaaDoor
