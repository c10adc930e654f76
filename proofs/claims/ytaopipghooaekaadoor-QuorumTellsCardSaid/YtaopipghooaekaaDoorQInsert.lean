/- slices.Clone, .Insert, .Delete, .BinarySearch at numbers that are owned. -/
import Derived.Test.YtaopipghooaekaaDoorQMeet
import Derived.Test.YtaopipghooaekaaDoorQLays
import Derived.Deep.MidRow
set_option linter.unusedVariables false
set_option linter.unusedSimpArgs false
namespace Go.Proofs.YtaopipghooaekaaDoor
open Go.RowKit

theorem range_RI {w : World} {b o : Nat} {ns : List Int} (h : w.rangeAt b o (iv ns)) : RI w (some ⟨b, o, none⟩) ns :=
  RI.mk' fun i hi => h i _ (by simp [iv, hi])
theorem RI_range {w : World} {b o : Nat} {ns : List Int} (h : RI w (some ⟨b, o, none⟩) ns) : w.rangeAt b o (iv ns) := by
  intro j v hj
  obtain ⟨hl, rfl⟩ := List.getElem?_eq_some_iff.1 hj
  obtain ⟨a, ha, hc⟩ := h j (by simpa using hl)
  obtain rfl := Option.some.inj ha
  rw [Addr.add_lit] at hc
  rw [hc]
  simp [iv]
theorem range_append {w : World} {b o : Nat} {xs ys : List Value} (ha : w.rangeAt b o xs) (hb : w.rangeAt b (o + xs.length) ys) : w.rangeAt b o (xs ++ ys) := by
  intro j v hj
  by_cases h : j < xs.length
  · rw [List.getElem?_append_left h] at hj
    exact ha j v hj
  · rw [List.getElem?_append_right (by omega)] at hj
    have := hb _ v hj
    rwa [show o + xs.length + (j - xs.length) = o + j by omega] at this
theorem range_take {w : World} {b o : Nat} {xs : List Value} (h : w.rangeAt b o xs) (k : Nat) : w.rangeAt b o (xs.take k) := by
  intro j v hj
  rw [List.getElem?_take] at hj
  split at hj
  · exact h j v hj
  · cases hj
theorem range_left {w : World} {b o : Nat} {xs ys : List Value} (h : w.rangeAt b o (xs ++ ys)) : w.rangeAt b o xs := by
  have := range_take h xs.length
  rwa [List.take_left] at this

theorem below_cells {B : Nat} {a : World} (b : Nat) (hb : B ≤ b) : ∀ (vs : List Value) (o : Nat) (w : World), Below B a w → Below B a (w.setCells b o vs)
  | [], _, _, h => h
  | v :: r, o, w, h => by
    rw [World.setCells]
    exact below_cells b hb r (o + 1) _ (h.setCell hb v)
/-- A slice that reads as numbers, in cells of its own that may be written. -/
def OV (w : World) (base : Nat) (V : Value) (ns : List Int) : Prop :=
  ∃ A c, V = .slice A ns.length c ∧ RI w A ns ∧ ns.length ≤ c ∧ (A = none → c = 0) ∧ ∀ a, A = some a → base ≤ a.block ∧ ∀ j, j < ns.length → w.frozen? (a.add j) = false
theorem OV.nil (w : World) (base : Nat) : OV w base (.slice none 0 0) [] := ⟨none, 0, rfl, RI.nil _ _, by simp, fun _ => rfl, fun a h => nomatch h⟩
theorem OV.rv {w : World} {base : Nat} {V : Value} {ns : List Int} (h : OV w base V ns) : RV w V ns := by
  obtain ⟨A, c, h1, h2, h3, h4, -⟩ := h
  exact ⟨A, c, h1, h2, h3, h4⟩
theorem OV.below {w w' : World} {base : Nat} {V : Value} {ns : List Int} (h : OV w base V ns) (b : Below w.heap.size w w') : OV w' base V ns := by
  obtain ⟨A, c, h1, h2, h3, h4, h5⟩ := h
  refine ⟨A, c, h1, h2.below b, h3, h4, fun a ha => ⟨(h5 a ha).1, fun j hj => ?_⟩⟩
  rw [World.frozen?_of_block (w := w) (by rw [show (a.add j).block = a.block by unfold Addr.add; split <;> rfl]; exact b.block _ (h2.lt ha (by omega)))]
  exact (h5 a ha).2 j hj
theorem OV.mono {w : World} {base base' : Nat} {V : Value} {ns : List Int} (h : OV w base V ns) (hb : base' ≤ base) : OV w base' V ns := by
  obtain ⟨A, c, h1, h2, h3, h4, h5⟩ := h
  exact ⟨A, c, h1, h2, h3, h4, fun a ha => ⟨Nat.le_trans hb (h5 a ha).1, (h5 a ha).2⟩⟩
theorem OV.own {w : World} {base : Nat} {V : Value} {ns : List Int} (h : w.ownsRow base 3 1 V ns.length (iv ns)) : OV w base V ns := by
  rcases h.2 with ⟨h1, h2⟩ | ⟨g, cap, cur, h1, hb, hg, hcap, _, _, _⟩
  · have := List.eq_nil_of_length_eq_zero h2
    subst this
    rw [h1]
    exact OV.nil _ _
  · refine ⟨_, cap, h1, ?_, hcap, (fun h => nomatch h), ?_⟩
    · rw [h1] at h; exact RI.own h
    · rintro a ha
      obtain rfl := Option.some.inj ha
      exact ⟨hb, fun j hj => by simp [Addr.add_lit, World.frozen?, hg]⟩

theorem OV.mk' {w : World} {base g n c : Nat} {ns : List Int} (hl : ns.length = n) (hr : w.rangeAt g 0 (iv ns)) (hc : n ≤ c) (hb : base ≤ g) (hf : ∀ j, w.frozen? ⟨g, 0 + j, none⟩ = false) : OV w base (.slice (some ⟨g, 0, none⟩) n c) ns := by
  subst hl
  refine ⟨some ⟨g, 0, none⟩, c, rfl, range_RI hr, hc, (fun h => nomatch h), ?_⟩
  rintro a ha
  obtain rfl := Option.some.inj ha
  exact ⟨hb, fun j _ => by rw [Addr.add_lit]; exact hf j⟩

/-- the clone's own block -/
theorem clone_any (A : Option Addr) (n c : Nat) (ns : List Int) (w : World) (hr : RI w A ns) (hl : ns.length = n) (h0 : 1 ≤ n) (hn : n ≤ 1000000000000) :
    Calls Tryd.prog 32 #[.slice A n c] w fun e w' => ∃ v', e = .returned v' ∧ w'.ownsRow w.heap.size 3 1 v' n (iv ns) ∧ Below w.heap.size w w' := by
  obtain ⟨g, o, rfl, hg, hc⟩ := hr.addr (by omega)
  have := Tryd.slices_Clone_int g o n c ns w (by omega) (by omega) hr.shelf
  rw [List.take_of_length_le (by omega)] at this
  exact this.mono fun e w' ⟨v', h1, h2, h3, h4⟩ => ⟨v', h1, h2, h4⟩

theorem search_any (A : Option Addr) (n c : Nat) (ns : List Int) (x : Int) (w : World) (hr : RI w A ns) (hl : ns.length = n) (h0 : 1 ≤ n) (hn : n ≤ 1000000000000) (hs : ns.Pairwise (· ≤ ·)) :
    Calls Tryd.prog 31 #[.slice A n c, .int .i64 x] w fun e w' => e = .returned (.tuple #[.int .i64 (ns.countP (· < x) : Nat), .bool (ns.contains x)]) ∧ Below w.heap.size w w' := by
  obtain ⟨g, o, rfl, hg, hc⟩ := hr.addr (by omega)
  have := Tryd.slices_BinarySearch_int g o n c ns x w (by omega) (by omega) hr.shelf (by rw [List.take_of_length_le (by omega)]; exact hs)
  rw [List.take_of_length_le (by omega)] at this
  exact this.mono fun e w' ⟨h1, q, h2⟩ => ⟨h1, by rw [h2]; exact below_draws (Below.refl _ _) q⟩

theorem delete_any (base n i : Nat) (v : Value) (ns : List Int) (w : World) (h : w.ownsRow base 3 1 v n (iv ns)) (hn : i < n) (hb : base ≤ w.heap.size) :
    Calls Tryd.prog 34 #[v, .int .i64 i, .int .i64 (i + 1 : Nat)] w fun e w' => ∃ V, e = .returned V ∧ OV w' base V (ns.take i ++ ns.drop (i + 1)) ∧ Below base w w' := by
  have hl : ns.length = n := by have := h.1; simpa using this
  rcases h.2 with ⟨h1, h2⟩ | ⟨g, cap, cur, rfl, hbg, hg, hcap, hm, hsz, htk⟩
  · omega
  · have hri : RI w (some ⟨g, 0, none⟩) ns := RI.own h
    have hfz : ∀ j, w.frozen? ⟨g, 0 + j, none⟩ = false := fun j => by simp [World.frozen?, hg]
    refine (Tryd.slices_Delete_int_cells g 0 n cap i (i + 1) ns w (by omega) hcap (by unfold maxLen at hm; omega) (by omega) (by omega) hri.shelf (fun j _ => hfz j)).mono ?_
    rintro e w' ⟨rfl, q, rfl⟩
    have hlen : (ns.take i ++ ns.drop (i + 1)).length = n - (i + 1 - i) := by simp; omega
    rw [List.take_of_length_le (by omega : ns.length ≤ n)]
    have hth : (w.drewN q).there g 0 (((ns.take i ++ ns.drop (i + 1) ++ List.replicate (i + 1 - i) 0).map (Value.int .i64)).length) := fun j hj => ⟨by
      have : j < ns.length := by simp at hj; omega
      rw [World.cell?_drewN, hri.shelf j this]; rfl, by rw [World.frozen?_drewN]; exact hfz j⟩
    have hrg := World.rangeAt_setCells_same (w.drewN q) g 0 _ hth
    refine ⟨_, rfl, OV.mk' hlen ?_ (by omega) hbg ?_, ?_⟩
    · refine range_left (ys := iv (List.replicate (i + 1 - i) 0)) ?_
      rw [← iv_append]
      exact hrg
    · intro j
      rw [World.frozen?_setCells, World.frozen?_drewN]
      exact hfz j
    · exact below_cells g hbg _ _ _ (below_draws (Below.refl _ _) q)

theorem there_part {w : World} {g o n a m : Nat} (h : w.there g o n) (hm : a + m ≤ n) : w.there g (o + a) m := fun j hj => by
  rw [Nat.add_assoc]
  exact h (a + j) (by omega)
theorem two_sets {w : World} (g i m : Nat) (zs1 vs ds : List Value) (ha : zs1.length = i) (hv : vs.length = m) (hr : w.rangeAt g 0 zs1) (ht : w.there g 0 (i + m + ds.length)) :
    ((w.setCells g (0 + (i + m)) ds).setCells g (0 + i) vs).rangeAt g 0 (zs1 ++ (vs ++ ds)) := by
  refine range_append ?_ (range_append ?_ ?_)
  · exact World.rangeAt_setCells_apart (World.rangeAt_setCells_apart hr _ _ _ (.inr (.inl (by omega)))) _ _ _ (.inr (.inl (by omega)))
  · rw [ha]
    exact World.rangeAt_setCells_same _ _ _ _ (World.there_setCells (there_part ht (by omega)) _ _ _)
  · rw [ha, hv, Nat.add_assoc]
    exact World.rangeAt_setCells_apart (World.rangeAt_setCells_same _ _ _ _ (there_part ht (by omega))) _ _ _ (.inr (.inr (by omega)))
theorem two_sets' {w : World} (g i m : Nat) (zs1 vs ds : List Value) (ha : zs1.length = i) (hv : vs.length = m) (hr : w.rangeAt g 0 zs1) (ht : w.there g 0 (i + m + ds.length)) :
    ((w.setCells g i vs).drew.setCells g (i + m) ds).rangeAt g 0 (zs1 ++ (vs ++ ds)) := by
  have ht' : ∀ o k, o + k ≤ i + m + ds.length → w.there g o k := fun o k h => by have := there_part ht h; rwa [Nat.zero_add] at this
  refine range_append ?_ (range_append ?_ ?_)
  · exact World.rangeAt_setCells_apart (w := (w.setCells g i vs).drew) (World.rangeAt_setCells_apart hr _ _ _ (.inr (.inl (by omega)))) _ _ _ (.inr (.inl (by omega)))
  · rw [ha, Nat.zero_add]
    exact World.rangeAt_setCells_apart (w := (w.setCells g i vs).drew) (World.rangeAt_setCells_same _ _ _ _ (ht' _ _ (by omega))) _ _ _ (.inr (.inl (by omega)))
  · rw [ha, hv, Nat.zero_add]
    exact World.rangeAt_setCells_same _ _ _ _ (World.there_setCells (ht' _ _ (by omega)) _ _ _)

theorem alloc_range (w : World) (xs : List Value) (Z : Array Value) (t : TypeId) : (w.alloc (.cells (xs.toArray ++ Z) t)).rangeAt w.heap.size 0 xs := by
  intro j v hj
  obtain ⟨hl, rfl⟩ := List.getElem?_eq_some_iff.1 hj
  rw [World.cell?_alloc_at _ _ _ _ (by simp), Nat.zero_add, Array.getElem?_append_left (by simpa using hl)]
  simp [hl]
theorem alloc_there (w : World) (C : Array Value) (t : TypeId) (k : Nat) (hk : k ≤ C.size) : (w.alloc (.cells C t)).there w.heap.size 0 k := fun j hj =>
  ⟨by rw [World.cell?_alloc_at _ _ _ _ (by omega)]; simp; omega, World.frozen?_alloc_new _ _ _ _⟩

theorem insert_any (base n i : Nat) (v : Value) (ns : List Int) (x : Int) (vb : Nat) (te : TypeId) (w : World) (h : w.ownsRow base 3 1 v n (iv ns)) (h0 : 1 ≤ n) (hn : i ≤ n) (hm1 : n ≤ 1000000000000) (hb : base ≤ w.heap.size)
    (hv : w.heap[vb]? = some (.cells #[.int .i64 x] te (0, 0))) (hne : v.ownBlock ≠ some vb) :
    Calls Tryd.prog 35 #[v, .int .i64 i, .slice (some ⟨vb, 0, none⟩) 1 1] w fun e w' => ∃ V, e = .returned V ∧ OV w' base V (ns.take i ++ x :: ns.drop i) ∧ Below base w w' := by
  have hl : ns.length = n := by have := h.1; simpa using this
  rcases h.2 with ⟨h1, h2⟩ | ⟨g, cap, cur, rfl, hbg, hg, hcap, hm, hsz, htk⟩
  · omega
  · have hgv : vb ≠ g := fun e => hne (by rw [e]; rfl)
    have hlt : g < w.heap.size := (Array.getElem?_eq_some_iff.1 hg).1
    have hri : RI w (some ⟨g, 0, none⟩) ns := RI.own h
    have hrg := RI_range hri
    have hfz : ∀ j, w.frozen? ⟨g, 0 + j, none⟩ = false := fun j => by simp [World.frozen?, hg]
    have hsp : ∀ j, j < cap → (w.cell? ⟨g, 0 + j, none⟩).isSome = true := fun j hj => by
      have : j < cur.size := by omega
      simp [World.cell?, hg, this]
    have hvs : ∀ j u, ([.int .i64 x] : List Value)[j]? = some u → w.cell? ⟨vb, 0 + j, none⟩ = some u := by
      intro j u hj
      simp only [World.cell?, hv, Option.isSome_none, Bool.false_eq_true, ↓reduceIte, Nat.zero_add]
      simpa using hj
    have hlen : (ns.take i ++ x :: ns.drop i).length = n + 1 := by simp; omega
    have heq : iv (ns.take i ++ x :: ns.drop i) = iv (ns.take i) ++ ([.int .i64 x] ++ iv (ns.drop i)) := by rw [iv_append]; rfl
    by_cases hroom : n + 1 ≤ cap
    · by_cases hin : i < n
      · refine (Any2.slices_Insert_int_shift Tryd.laysNm221 g 0 n cap i vb 0 1 1 (iv ns) [.int .i64 x] w hin (by omega) hroom (by unfold maxLen at hm; omega) hgv (by simpa using hl) rfl hrg (fun j hj => hsp j (by omega)) (fun j _ => hfz j) hvs (iv_one ns) (by simp [Value.oneCell']) te 3 1 cap
          (by simp [World.shape?, hv]) (by simp [World.shape?, hg]; omega) (by omega) (by simp [World.frozen?, hv]) (by simp [World.frozen?, hv])).mono ?_
        rintro e w' ⟨rfl, rfl⟩
        have hdi : (iv ns).drop i = iv (ns.drop i) := by simp [iv]
        refine ⟨_, rfl, OV.mk' hlen ?_ hroom hbg ?_, ?_⟩
        · rw [heq, hdi]
          exact two_sets (w := w.drew) g i 1 _ _ _ (by simp; omega) rfl (by have := range_left (xs := iv (ns.take i)) (ys := iv (ns.drop i)) (by rw [← iv_append, List.take_append_drop]; exact hrg); exact this) (fun j hj => ⟨hsp j (by simp at hj; omega), hfz j⟩)
        · intro j
          rw [World.frozen?_setCells, World.frozen?_setCells]
          exact hfz j
        · exact below_cells g hbg _ _ _ (below_cells g hbg _ _ _ (Below.refl _ _).drew)
      · obtain rfl : i = n := by omega
        refine (Any2.slices_Insert_int_end_room Tryd.laysNm221 g 0 i cap vb 0 1 1 [.int .i64 x] w (by omega) hroom (by unfold maxLen at hm; omega) rfl (fun j hj => by rw [Nat.zero_add]; have := hsp (i + j) (by omega); rwa [Nat.zero_add] at this) (fun j _ => by have := hfz (i + j); rwa [← Nat.add_assoc] at this) hvs (by simp [Value.oneCell'])).mono ?_
        rintro e w' ⟨rfl, rfl⟩
        refine ⟨_, rfl, OV.mk' hlen ?_ hroom hbg ?_, ?_⟩
        · rw [List.take_of_length_le (by omega), List.drop_of_length_le (by omega), show iv (ns ++ [x]) = iv ns ++ [.int .i64 x] from iv_append _ _]
          refine range_append (World.rangeAt_setCells_apart hrg _ _ _ (.inr (.inl (by simp; omega)))) ?_
          rw [show (iv ns).length = i by simpa using hl]
          exact World.rangeAt_setCells_same _ _ _ _ fun j hj => ⟨by rw [Nat.add_assoc]; exact hsp _ (by simp at hj; omega), by rw [Nat.add_assoc]; exact hfz _⟩
        · intro j
          rw [World.frozen?_setCells]
          exact hfz j
        · exact below_cells g hbg _ _ _ (Below.refl _ _)
    · by_cases hin : i < n
      · refine (Any2.slices_Insert_int_grow Tryd.laysNm221 g 0 n cap i vb 0 1 1 (iv ns) [.int .i64 x] w hin (by omega) hcap (by omega) (by omega) (by simpa using hl) rfl hrg hvs (iv_one ns) (by simp [Value.oneCell'])).mono ?_
        rintro e w' ⟨rfl, rfl⟩
        have hdi : (iv ns).drop i = iv (ns.drop i) := by simp [iv]
        have hti : (iv ns).take i = iv (ns.take i) := by simp [iv]
        have hge := grownCap_ge w (n + 1) cap (Tryd.laysNm221_ren.t 3)
        refine ⟨_, rfl, OV.mk' hlen ?_ hge hb ?_, ?_⟩
        · rw [heq, hdi, hti]
          refine two_sets' (w := World.drew _) _ i 1 _ _ _ (by simp; omega) rfl ?_ ?_
          · rw [Array.append_assoc]
            exact alloc_range w _ _ _
          · refine alloc_there w _ _ _ ?_
            simp [Builtin.zeroCells, Value.cells]
            omega
        · intro j
          rw [World.frozen?_setCells, World.frozen?_drew, World.frozen?_setCells, World.frozen?_drew]
          exact World.frozen?_alloc_new _ _ _ _
        · exact below_cells _ hb _ _ _ (below_cells _ hb _ _ _ ((Below.refl _ _).alloc hb _).drew).drew
      · obtain rfl : i = n := by omega
        refine (Any2.slices_Insert_int_end_grow Tryd.laysNm221 (some ⟨g, 0, none⟩) i cap vb 0 1 1 (iv ns) [.int .i64 x] w (by omega) hcap (by omega) (by omega) (by simpa using hl) rfl (fun h => nomatch h) (by rintro a ha j u hj; obtain rfl := Option.some.inj ha; rw [Addr.add_lit]; exact hrg j u hj) hvs (by simp [Value.oneCell'])).mono ?_
        rintro e w' ⟨rfl, rfl⟩
        have hge := grownCap_ge w (i + 1) cap (Tryd.laysNm221_ren.t 3)
        refine ⟨_, rfl, OV.mk' hlen ?_ hge hb ?_, ?_⟩
        · rw [List.take_of_length_le (by omega), List.drop_of_length_le (by omega), show iv (ns ++ [x]) = iv ns ++ [.int .i64 x] from iv_append _ _]
          exact alloc_range w.drew _ _ _
        · intro j
          exact World.frozen?_alloc_new _ _ _ _
        · exact (Below.refl _ _).drew.alloc hb _
end Go.Proofs.YtaopipghooaekaaDoor
