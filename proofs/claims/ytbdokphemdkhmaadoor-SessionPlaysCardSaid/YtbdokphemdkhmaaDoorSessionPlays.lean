/- muntinlaw16.SessionPlays: the walk. -/
import Derived.Test.YtbdokphemdkhmaaDoorSPlay
set_option linter.unusedVariables false
set_option linter.unusedSimpArgs false
namespace Go.Proofs.YtbdokphemdkhmaaDoor
open Go.ChangeShapes Go.WideShapes Go.RowKit Go.Deep

theorem open_sessn {H : Type} {enc : TypeId × Value → H} {W : World} {ts : List TypeId} {ds : List (DataW H)} {j : Nat} {a : Option Addr} {len cap : Nat} {d : DataW H} {p : List MemPlace}
    (hsz : (DataW.weightsEach Tryd.prog ts ds).all (· ≤ reachBytes) = true) (ht : ts[j]? = some 38) (hd : ds[j]? = some d)
    (h : DataW.Trod enc Tryd.prog W 0 (fun _ => true) true 38 (.slice a len cap) d p) :
    ∃ av : List SV, len = av.length ∧ RA W a av ∧ len ≤ cap ∧ cap * 48 ≤ 140737488351232 ∧ (a = none → cap = 0) := by
  obtain ⟨fuel, hf⟩ := h
  have hre : reachBytes = 140737488351232 := rfl
  rcases open_slice Tryd.underlying38 hf with ⟨hcs, _⟩ | ⟨x, l, c, m, n, D, Pl, hcs, _, hl, hm, hmm, hx, hr⟩
  · simp [Value.cells] at hcs
    obtain ⟨rfl, rfl, rfl⟩ := hcs
    exact ⟨[], rfl, RA.nil _ _, by omega, by omega, fun _ => rfl⟩
  · simp [Value.cells] at hcs
    obtain ⟨rfl, rfl, rfl⟩ := hcs
    simp only [Prod.mk.injEq] at hx
    obtain ⟨rfl, _⟩ := hx
    rw [cells_sess] at hr
    have hmc : m = cap := by simpa using hmm
    subst hmc
    have hb : Tryd.prog.bytesOf 44 = 48 := by kernel_rfl
    have hall : ∀ i, i < len → ∀ q ∈ (D i).weights Tryd.prog 44, q ≤ reachBytes := fun i hi q hq => by
      refine of_decide_eq_true (List.all_eq_true.1 hsz _ (DataW.weights_mem_each ht hd _ ?_))
      simp only [DataW.weights, Tryd.underlying38, List.mem_cons, List.mem_append]
      exact .inr (.inl (weightsAll_in (List.mem_map.2 ⟨i, List.mem_range.2 hi, rfl⟩) _ hq))
    obtain ⟨y, hy⟩ := choose_lt (n := len) (fun i hi => by
      obtain ⟨cs', hc, ht'⟩ := hr i (by omega)
      exact trod_sess (hall i hi) hc ht')
    refine ⟨(List.range len).map y, by simp, fun k hk => ⟨x, rfl, ?_⟩, hl, ?_, fun h => by cases h⟩
    · have hi : k < len := by simpa using hk
      simp only [List.getElem_map, List.getElem_range]
      exact hy k hi
    · have hw := sized_slice hsz ht hd Tryd.underlying38
      rw [hb] at hw
      simp at hw
      rw [hre] at hw
      have : (len + (m - len)) = m := by omega
      rw [this] at hw
      exact hw
theorem RS.cells {w : World} {ls : List SV} {a : Addr} (h : RS w (some a) ls) : ∀ j u, (scells ls)[j]? = some u → w.cell? (a.add j) = some u := by
  intro j u hu
  have hj : j < ls.length * 4 := by
    have := (List.getElem?_eq_some_iff.1 hu).1
    rw [scells_length] at this
    exact this
  have hk : j / 4 < ls.length := by omega
  obtain ⟨a', e, c0, c1, c2, c3, _⟩ := h (j / 4) hk
  cases e
  obtain ⟨s0, s1, s2, s3⟩ := scells_get ls (j / 4) hk
  have hd : j = j / 4 * 4 + j % 4 := by omega
  have h4 : j % 4 < 4 := Nat.mod_lt _ (by decide)
  generalize hkk : j / 4 = k at *
  generalize htt : j % 4 = t at *
  subst hd
  rcases t with _ | _ | _ | _ | t
  · rw [Nat.add_zero] at hu ⊢; rw [s0] at hu; rw [c0]; exact hu
  · rw [s1] at hu; rw [c1]; exact hu
  · rw [s2] at hu; rw [c2]; exact hu
  · rw [s3] at hu; rw [c3]; exact hu
  · omega
/-- append([]api.Session{}, l...): a row of its own that holds what l holds -/
theorem run_append_all {w : World} (A : Option Addr) (m c : Nat) (es : List SV) (hm : es.length = m) (hA : A = none → c = 0) (hr : RS w A es) (hn : m * 48 ≤ 140737488355328) :
    ∃ v' w', (Builtin.append_ #[38, 38] 38 #[.slice (some ⟨w.heap.size, 0, none⟩) 0 0, .slice A m c]).run Tryd.prog (w.alloc (.cells #[] 44)) = .ok v' w' ∧ w'.ownsRow w.heap.size 44 4 v' m (scells es) ∧ Below w.heap.size w w' := by
  obtain ⟨i0, hi, hz0, hz1, hz2⟩ := info_parts info_ses
  have hown := World.ownsRow_made (base := w.heap.size) (e := 44) (size := 4) w #[] 0 (Nat.le_refl _) (by unfold maxLen; omega) rfl
  have bA := below_alloc w (.cells #[] 44)
  cases A with
  | none =>
    obtain rfl := hA rfl
    obtain rfl : m = 0 := by
      rcases Nat.eq_zero_or_pos m with h | h
      · exact h
      · obtain ⟨a, e, _⟩ := hr 0 (by omega)
        cases e
    obtain rfl : es = [] := List.eq_nil_of_length_eq_zero hm
    exact ⟨_, _, run_append_owned_none (P := Tryd.prog) _ w.heap.size 38 _ 44 i0 4 Tryd.underlying38 hi _ 0 _ hown, by simpa [scells] using hown, bA⟩
  | some a =>
    obtain ⟨v', w', h1, h2, h3, _, _⟩ := run_append_own_at (P := Tryd.prog) (w := w.alloc (.cells #[] 44)) w.heap.size 38 38 44 i0 _ 4 48 Tryd.underlying38 hi hz0 hz1 hz2 rfl (by decide) _ 0 _ hown a m c (scells es) (by rw [scells_length, hm]) ((hr.below bA).cells) (scells_one es) (by unfold maxLen; omega) (by omega) bA.size
    refine ⟨v', w', h1, by simpa using h2, bA.grown h3 bA.size (fun k hk => ?_)⟩
    have hk : w.heap.size = k := Option.some.inj hk
    subst hk
    exact Nat.le_refl _
theorem own_below {w w' : World} {base : Nat} {e : TypeId} {size n : Nat} {v : Value} {xs : List Value} (h : w.ownsRow base e size v n xs) (b : Below w.heap.size w w') : w'.ownsRow base e size v n xs := own_step h fun k hk => b.block k (h.lt k hk).2
/-- the loop of SessionPlays, under way -/
structure PS (w : World) (p b q : Nat) (wr : World) (k : Nat) (v : Value) (clock : Int) (ss ls : List SV) : Prop where
  two : Two wr w.heap.size p b q v clock ss ls
  ck : clock ≤ 4611686018427387904 + k
  bel : Below w.heap.size w wr
theorem RT.lower {w : World} {base b' q : Nat} {v : Value} {clock : Int} {ls : List SV} (h : RT w base q v clock ls) (hb : b' ≤ base) : RT w b' q v clock ls :=
  ⟨Nat.le_trans hb h.1, h.2.1, own_lower h.2.2.1 hb, fun s hs => (h.2.2.2 s hs).lower hb⟩
/-- what Restore takes, a table may hold -/
theorem inv_of {clock : Int} {l ss : List SV} (hg : restOK clock l) (hs : ss.map core = l.map core) (hwf : ∀ s ∈ l, (Lit.int .i64 s.i).wf = true ∧ (Lit.int .i64 s.l).wf = true) : Inv clock ss := by
  obtain ⟨g, c0, c1, ln⟩ := hg
  have G : Good clock ss := g.same hs.symm
  have L := core_len hs
  have hmem : ∀ s ∈ ss, ∃ k, ∃ h : k < ss.length, ss[k] = s := fun s h => by
    obtain ⟨k, h1, h2⟩ := List.getElem_of_mem h
    exact ⟨k, h1, h2⟩
  have hw : ∀ s ∈ ss, (Lit.int .i64 s.i).wf = true ∧ (Lit.int .i64 s.l).wf = true := fun s h => by
    have : core s ∈ l.map core := by rw [← hs]; exact List.mem_map.2 ⟨s, h, rfl⟩
    obtain ⟨t, ht, e⟩ := List.mem_map.1 this
    simp only [core, Prod.mk.injEq] at e
    rw [← e.1, ← e.2.1]
    exact hwf t ht
  refine ⟨List.pairwise_iff_getElem.2 fun i j hi hj hij => (G j hj).1 _ (List.mem_take_iff_getElem.2 ⟨i, by omega, rfl⟩), by rw [L]; exact ln, c0, fun s h => ?_, fun s h t h' e => ?_⟩
  · obtain ⟨k, hk, rfl⟩ := hmem s h
    obtain ⟨o1, o2, o3, o4, o5, o6, o7, o8⟩ := G k hk
    refine ⟨o2, (hw _ h).1, o6, (hw _ h).2, o3, o4, o8, fun h0 => ?_⟩
    rcases hr : (ss[k]).r with _ | ⟨x, y⟩
    · rfl
    · exact absurd ⟨h0, by rw [hr]; simp⟩ o7
  · obtain ⟨i, hi, rfl⟩ := hmem s h
    obtain ⟨j, hj, rfl⟩ := hmem t h'
    rcases Nat.lt_trichotomy i j with hij | rfl | hij
    · exact absurd e ((G j hj).2.2.2.2.1 _ (List.mem_take_iff_getElem.2 ⟨i, by omega, rfl⟩))
    · rfl
    · exact absurd e.symm ((G i hi).2.2.2.2.1 _ (List.mem_take_iff_getElem.2 ⟨j, by omega, rfl⟩))

set_option maxRecDepth 100000 in
set_option maxHeartbeats 8000000 in
theorem sessionPlays_walk (A : Option Addr) (n c : Nat) (lv : List SV) (clock : Int) (fresh : Bool) (A2 : Option Addr) (n2 c2 : Nat) (av : List SV) (w : World) (hE : ErrT w) (hr : RA w A lv) (hl : lv.length = n) (hn : n * 48 ≤ 140737488351232) (hA : A = none → c = 0)
    (hr2 : RA w A2 av) (hl2 : av.length = n2) (hn2 : n2 ≤ 10000000000000) :
    Calls Tryd.prog 5 #[.slice A n c, .int .i64 clock, .bool fresh, .slice A2 n2 c2] w fun e w' => e = .returned (.bool true) ∧ Below w.heap.size w w' := by
  have HS := Lib.hid (small_any w hE)
  have HR := Lib.hid hr.rs
  have HL := Lib.hid hl
  have HR2 := Lib.hid hr2
  have HL2 := Lib.hid hl2
  have HE := Lib.hid hE
  have HWF := Lib.hid (show ∀ s ∈ lv, (Lit.int .i64 s.i).wf = true ∧ (Lit.int .i64 s.l).wf = true ∧ (Lit.int .i64 s.u).wf = true from fun s hs => by
    obtain ⟨k, h1, rfl⟩ := List.getElem_of_mem hs
    obtain ⟨a, _, _, _, _, _, _, x1, x2, x3⟩ := hr k h1
    exact ⟨x1, x2, x3⟩)
  have hw0 := Lib.hid (Nat.lt_of_le_of_lt (Nat.zero_le _) (World.block_lt_of_cell? _ _ hE))
  have HAN := Lib.hid hA
  have HNB := Lib.hid (show n ≤ 10000000000000 by omega)
  have HN48 := Lib.hid hn
  clear hr hl hE hr2 hl2 hA
  go_enter Tryd.func5, Tryd.ntmps5
  go_wp2_with fail
  refine HS.out.mono ?_
  rintro e w1 ⟨rfl, b1⟩
  obtain ⟨v2, w2, run2, own2, b2⟩ := run_append_all (w := w1) A n c lv HL.out HAN.out (HR.out.below b1) (by have := HN48.out; omega)
  obtain ⟨B2, c3, hv2, -, -⟩ := own_shape own2
  subst hv2
  have HB1 := Lib.hid b1
  have HB2 := Lib.hid (below_then b1 b1.size b2)
  have HO2 := Lib.hid own2
  have HRS2 := Lib.hid (restore_any A n c lv clock w2 (HR.out.below HB2.out) HL.out HNB.out (fun s hs => ⟨(HWF.out s hs).1, (HWF.out s hs).2.2⟩))
  clear own2 b1 b2
  go_wp2_with (at_builtin; refine wpList_append_run rfl (.tmp 20) (.tmp 21) rfl rfl _ _ rfl rfl _ _ run2 ?_)
  refine HRS2.out.mono ?_
  rintro e w3 ⟨b3, hres⟩
  have HB3 := Lib.hid b3
  have HBw3 := Lib.hid (below_then HB2.out HB2.out.size b3)
  have HRR := Lib.hid (rrestore_any A n c lv clock w3 (HR.out.below HBw3.out) HL.out HNB.out)
  have hsm : ∀ w4, Below w3.heap.size w3 w4 → Calls Tryd.prog 16 #[.slice A n c, .slice B2 n c3] w4 fun e w' => e = .returned (.bool true) ∧ ∃ q, w' = w4.drewN q := fun w4 b4 => by
    have hB4 := below_then HBw3.out HBw3.out.size b4
    have own4 := own_below (own_below HO2.out b3) b4
    exact same_any A B2 n n c c3 lv lv w4 (HR.out.below hB4) (row_rs own4 HL.out (fun s hs => by
      obtain ⟨k, h1, rfl⟩ := List.getElem_of_mem hs
      obtain ⟨_, _, _, _, _, _, h⟩ := HR.out k h1
      exact h.below hB4)) HL.out HL.out rfl HNB.out
  have HSM := Lib.hid hsm
  clear b3 hsm
  obtain ⟨hgood, p, b, ss, rfl, tb, hss⟩ | ⟨hbad, rfl⟩ := hres
  · have HG := Lib.hid hgood
    have HTB := Lib.hid tb
    have HSS := Lib.hid hss
    clear tb hss hgood
    go_wp2_with fail
    refine HRR.out.mono ?_
    rintro e w4 ⟨b4, hres4⟩
    obtain ⟨-, q, v, ls, rfl, rt, hls⟩ | ⟨hno, -⟩ := hres4
    rotate_left
    · exact absurd HG.out hno
    have HBw4 := Lib.hid (below_then HBw3.out HBw3.out.size b4)
    have hsz := HBw3.out.size
    have hsz2 := HB2.out.size
    have H4 := Lib.hid (show Two w4 w.heap.size p b q v clock ss ls from ⟨(HTB.out.below b4).lower (by omega), rt.lower (by omega), by rw [HSS.out, hls], inv_of HG.out HSS.out (fun s hs => ⟨(HWF.out s hs).1, (HWF.out s hs).2.1⟩)⟩)
    have HB4 := Lib.hid b4
    have HCK := Lib.hid (show clock ≤ 4611686018427387904 from HG.out.2.2.1)
    clear b4 rt hls hsz hsz2
    go_wp2_with fail
    refine (HSM.out _ HB4.out).mono ?_
    rintro e w5 ⟨rfl, q5, rfl⟩
    have H5 := Lib.hid (show Two (w4.drewN q5) w.heap.size p b q v clock ss ls from H4.out.below (below_drawn (Below.refl _ _) q5))
    have HBw5 := Lib.hid (below_drawn HBw4.out q5)
    have HC := code_any 0 (w4.drewN q5) (HE.out.below HBw5.out)
    rw [errV_zero] at HC
    have HCO := Lib.hid HC
    clear HC
    go_wp2_with fail
    refine HCO.out.mono ?_
    rintro e w6 ⟨rfl, b6⟩
    have HBw6 := Lib.hid (below_then HBw5.out HBw5.out.size b6)
    have H6 := Lib.hid (H5.out.below b6)
    clear b6
    cases fresh with
    | false =>
      go_wp2_with fail
      have H0 := Lib.hid (show PS w p b q w6 0 v clock ss ls from ⟨H6.out, by have := HCK.out; omega, HBw6.out⟩)
      go_loopg [16] 200 (fun gq ki wr => ∃ (k : Nat) (v : Value) (clock : Int) (ss ls : List SV), gq = 200 - k ∧ k ≤ 200 ∧ ki = .int .i64 k ∧ PS w p b q wr k v clock ss ls)
      case atStart => exact ⟨0, _, _, _, _, rfl, by omega, rfl, H0.out⟩
      case round =>
        obtain ⟨k, v, clock, ss, ls, hq, hk, rfl, O⟩ := hrel
        have HO := Lib.hid O
        clear O H0
        by_cases hkn : k < n2 ∧ k < 200
        · obtain ⟨hk1, hk2⟩ := hkn
          have hk1i : (k : Int) < (n2 : Int) := by omega
          have hk2i : (k : Int) < 200 := by omega
          have hka : k < av.length := by rw [HL2.out]; exact hk1
          obtain ⟨g, o, rfl, hg, hc⟩ := (HR2.out.below HO.out.bel).addr (by omega)
          obtain ⟨c0, c1, c2', c3', -, w0', w1', w2'⟩ := hc k hka
          have hrd : RD w av[k].D av[k].r := by
            obtain ⟨_, _, _, _, _, _, h, -⟩ := HR2.out k hka
            exact h
          obtain ⟨a, ha⟩ : ∃ a, a = av[k] := ⟨_, rfl⟩
          rw [← ha] at c0 c1 c2' c3' w0' w1' w2' hrd
          have HAC := Lib.hid (act_any w.heap.size p b q v clock ss ls a wr HO.out.two HO.out.bel.size (HE.out.below HO.out.bel) hw0.out (fun w' h => hrd.below (below_trans HO.out.bel h)) w1' w2' (by have := HO.out.ck; omega))
          simp only [SV.D] at c3'
          clear hc hrd w0' w1' w2' ha
          go_wp2_with fail
          refine HAC.out.mono ?_
          rintro e w8 ⟨rfl, v8, clock8, ss8, ls8, t8, b8, k8⟩
          have HT8 := Lib.hid t8
          have HB8 := Lib.hid b8
          have HK8 := Lib.hid k8
          clear t8 b8 k8
          go_wp2_with fail
          refine (tells_any w.heap.size p b q v8 clock8 ss8 ls8 w8 HT8.out).mono ?_
          rintro e w9 ⟨rfl, b9⟩
          have HF := Lib.hid (show PS w p b q w9 (k + 1) v8 clock8 ss8 ls8 from ⟨HT8.out.below b9, by have := HK8.out; have := HO.out.ck; omega, below_then (below_trans HO.out.bel HB8.out) (below_trans HO.out.bel HB8.out).size b9⟩)
          clear b9
          go_wp2_with fail
          go_roundg (200 - (k + 1))
          case measure => omega
          case rel => exact ⟨k + 1, _, _, _, _, rfl, by omega, by go_num, HF.out⟩
        · by_cases hk1 : k < n2
          · have hk1i : (k : Int) < (n2 : Int) := by omega
            have hk2i : ¬ (k : Int) < 200 := by omega
            clear hkn
            go_wp2_with fail
            go_ret
            exact ⟨rfl, HO.out.bel⟩
          · have hk1i : ¬ (k : Int) < (n2 : Int) := by omega
            clear hkn
            go_wp2_with fail
            go_ret
            exact ⟨rfl, HO.out.bel⟩
    | true =>
      go_wp2_with fail
      refine (new_any _).mono ?_
      rintro e w7 ⟨p7, b7, rfl, t7, bb7⟩
      have HBw7 := Lib.hid (below_then HBw6.out HBw6.out.size bb7)
      have hs7 := HBw6.out.size
      have bM := below_alloc w7 (.cells #[.slice none 0 0, .int .i64 0] 54)
      have HS7 := HBw7.out.size
      have H0 := Lib.hid (show PS w p7 b7 w7.heap.size (w7.alloc (.cells #[.slice none 0 0, .int .i64 0] 54)) 0 (.slice none 0 0) 0 [] [] from
        ⟨⟨(t7.below bM).lower (by omega), ⟨HS7, heap_alloc_new _ _, World.ownsRow_nil _ _ _ _, by simp⟩, rfl, Inv.new⟩, by omega, below_then HBw7.out HBw7.out.size bM⟩)
      clear t7 bb7 bM hs7 HS7
      go_wp2_with fail
      go_loopg [16] 200 (fun gq ki wr => ∃ (k : Nat) (v : Value) (clock : Int) (ss ls : List SV), gq = 200 - k ∧ k ≤ 200 ∧ ki = .int .i64 k ∧ PS w p7 b7 w7.heap.size wr k v clock ss ls)
      case atStart => exact ⟨0, _, _, _, _, rfl, by omega, rfl, H0.out⟩
      case round =>
        obtain ⟨k, v, clock, ss, ls, hq, hk, rfl, O⟩ := hrel
        have HO := Lib.hid O
        clear O H0
        by_cases hkn : k < n2 ∧ k < 200
        · obtain ⟨hk1, hk2⟩ := hkn
          have hk1i : (k : Int) < (n2 : Int) := by omega
          have hk2i : (k : Int) < 200 := by omega
          have hka : k < av.length := by rw [HL2.out]; exact hk1
          obtain ⟨g, o, rfl, hg, hc⟩ := (HR2.out.below HO.out.bel).addr (by omega)
          obtain ⟨c0, c1, c2', c3', -, w0', w1', w2'⟩ := hc k hka
          have hrd : RD w av[k].D av[k].r := by
            obtain ⟨_, _, _, _, _, _, h, -⟩ := HR2.out k hka
            exact h
          obtain ⟨a, ha⟩ : ∃ a, a = av[k] := ⟨_, rfl⟩
          rw [← ha] at c0 c1 c2' c3' w0' w1' w2' hrd
          have HAC := Lib.hid (act_any w.heap.size p7 b7 w7.heap.size v clock ss ls a wr HO.out.two HO.out.bel.size (HE.out.below HO.out.bel) hw0.out (fun w' h => hrd.below (below_trans HO.out.bel h)) w1' w2' (by have := HO.out.ck; omega))
          simp only [SV.D] at c3'
          clear hc hrd w0' w1' w2' ha
          go_wp2_with fail
          refine HAC.out.mono ?_
          rintro e w8 ⟨rfl, v8, clock8, ss8, ls8, t8, b8, k8⟩
          have HT8 := Lib.hid t8
          have HB8 := Lib.hid b8
          have HK8 := Lib.hid k8
          clear t8 b8 k8
          go_wp2_with fail
          refine (tells_any w.heap.size p7 b7 w7.heap.size v8 clock8 ss8 ls8 w8 HT8.out).mono ?_
          rintro e w9 ⟨rfl, b9⟩
          have HF := Lib.hid (show PS w p7 b7 w7.heap.size w9 (k + 1) v8 clock8 ss8 ls8 from ⟨HT8.out.below b9, by have := HK8.out; have := HO.out.ck; omega, below_then (below_trans HO.out.bel HB8.out) (below_trans HO.out.bel HB8.out).size b9⟩)
          clear b9
          go_wp2_with fail
          go_roundg (200 - (k + 1))
          case measure => omega
          case rel => exact ⟨k + 1, _, _, _, _, rfl, by omega, by go_num, HF.out⟩
        · by_cases hk1 : k < n2
          · have hk1i : (k : Int) < (n2 : Int) := by omega
            have hk2i : ¬ (k : Int) < 200 := by omega
            clear hkn
            go_wp2_with fail
            go_ret
            exact ⟨rfl, HO.out.bel⟩
          · have hk1i : ¬ (k : Int) < (n2 : Int) := by omega
            clear hkn
            go_wp2_with fail
            go_ret
            exact ⟨rfl, HO.out.bel⟩
  · have HG := Lib.hid hbad
    clear hbad
    go_wp2_with fail
    refine HRR.out.mono ?_
    rintro e w4 ⟨b4, hres4⟩
    obtain ⟨hyes, -⟩ | ⟨-, rfl⟩ := hres4
    · exact absurd hyes HG.out
    have HBw4 := Lib.hid (below_then HBw3.out HBw3.out.size b4)
    have HB4 := Lib.hid b4
    clear b4
    go_wp2_with fail
    refine (HSM.out _ HB4.out).mono ?_
    rintro e w5 ⟨rfl, q5, rfl⟩
    have HBw5 := Lib.hid (below_drawn HBw4.out q5)
    have HCO := Lib.hid (code_any 1 (w4.drewN q5) (HE.out.below HBw5.out))
    go_wp2_with fail
    refine HCO.out.mono ?_
    rintro e w6 ⟨rfl, b6⟩
    have HBw6 := Lib.hid (below_then HBw5.out HBw5.out.size b6)
    clear b6
    go_wp2_with fail
    refine (new_any _).mono ?_
    rintro e w7 ⟨p7, b7, rfl, t7, bb7⟩
    have HBw7 := Lib.hid (below_then HBw6.out HBw6.out.size bb7)
    have hs7 := HBw6.out.size
    have bM := below_alloc w7 (.cells #[.slice none 0 0, .int .i64 0] 54)
    have HS7 := HBw7.out.size
    have H0 := Lib.hid (show PS w p7 b7 w7.heap.size (w7.alloc (.cells #[.slice none 0 0, .int .i64 0] 54)) 0 (.slice none 0 0) 0 [] [] from
      ⟨⟨(t7.below bM).lower (by omega), ⟨HS7, heap_alloc_new _ _, World.ownsRow_nil _ _ _ _, by simp⟩, rfl, Inv.new⟩, by omega, below_then HBw7.out HBw7.out.size bM⟩)
    clear t7 bb7 bM hs7 HS7
    go_wp2_with fail
    go_loopg [16] 200 (fun gq ki wr => ∃ (k : Nat) (v : Value) (clock : Int) (ss ls : List SV), gq = 200 - k ∧ k ≤ 200 ∧ ki = .int .i64 k ∧ PS w p7 b7 w7.heap.size wr k v clock ss ls)
    case atStart => exact ⟨0, _, _, _, _, rfl, by omega, rfl, H0.out⟩
    case round =>
      obtain ⟨k, v, clock, ss, ls, hq, hk, rfl, O⟩ := hrel
      have HO := Lib.hid O
      clear O H0
      by_cases hkn : k < n2 ∧ k < 200
      · obtain ⟨hk1, hk2⟩ := hkn
        have hk1i : (k : Int) < (n2 : Int) := by omega
        have hk2i : (k : Int) < 200 := by omega
        have hka : k < av.length := by rw [HL2.out]; exact hk1
        obtain ⟨g, o, rfl, hg, hc⟩ := (HR2.out.below HO.out.bel).addr (by omega)
        obtain ⟨c0, c1, c2', c3', -, w0', w1', w2'⟩ := hc k hka
        have hrd : RD w av[k].D av[k].r := by
          obtain ⟨_, _, _, _, _, _, h, -⟩ := HR2.out k hka
          exact h
        obtain ⟨a, ha⟩ : ∃ a, a = av[k] := ⟨_, rfl⟩
        rw [← ha] at c0 c1 c2' c3' w0' w1' w2' hrd
        have HAC := Lib.hid (act_any w.heap.size p7 b7 w7.heap.size v clock ss ls a wr HO.out.two HO.out.bel.size (HE.out.below HO.out.bel) hw0.out (fun w' h => hrd.below (below_trans HO.out.bel h)) w1' w2' (by have := HO.out.ck; omega))
        simp only [SV.D] at c3'
        clear hc hrd w0' w1' w2' ha
        go_wp2_with fail
        refine HAC.out.mono ?_
        rintro e w8 ⟨rfl, v8, clock8, ss8, ls8, t8, b8, k8⟩
        have HT8 := Lib.hid t8
        have HB8 := Lib.hid b8
        have HK8 := Lib.hid k8
        clear t8 b8 k8
        go_wp2_with fail
        refine (tells_any w.heap.size p7 b7 w7.heap.size v8 clock8 ss8 ls8 w8 HT8.out).mono ?_
        rintro e w9 ⟨rfl, b9⟩
        have HF := Lib.hid (show PS w p7 b7 w7.heap.size w9 (k + 1) v8 clock8 ss8 ls8 from ⟨HT8.out.below b9, by have := HK8.out; have := HO.out.ck; omega, below_then (below_trans HO.out.bel HB8.out) (below_trans HO.out.bel HB8.out).size b9⟩)
        clear b9
        go_wp2_with fail
        go_roundg (200 - (k + 1))
        case measure => omega
        case rel => exact ⟨k + 1, _, _, _, _, rfl, by omega, by go_num, HF.out⟩
      · by_cases hk1 : k < n2
        · have hk1i : (k : Int) < (n2 : Int) := by omega
          have hk2i : ¬ (k : Int) < 200 := by omega
          clear hkn
          go_wp2_with fail
          go_ret
          exact ⟨rfl, HO.out.bel⟩
        · have hk1i : ¬ (k : Int) < (n2 : Int) := by omega
          clear hkn
          go_wp2_with fail
          go_ret
          exact ⟨rfl, HO.out.bel⟩
theorem sessionPlays_row (A : Option Addr) (c : Nat) (lv : List SV) (clock : Int) (fresh : Bool) (A2 : Option Addr) (c2 : Nat) (av : List SV) (w : World) (hl : lv.length ≤ c) (hn : c * 48 ≤ 140737488351232) (hr : RA w A lv) (hA : A = none → c = 0) (_hw : (Lit.int .i64 clock).wf = true) (hl2 : av.length ≤ c2) (hn2 : c2 * 48 ≤ 140737488351232) (hr2 : RA w A2 av) (hE : ErrT w) :
    Calls Tryd.prog 5 #[.slice A lv.length c, .int .i64 clock, .bool fresh, .slice A2 av.length c2] w fun e w' => e = .returned (.bool true) ∧ Below w.heap.size w w' :=
  sessionPlays_walk A _ c lv clock fresh A2 _ c2 av w hE hr rfl (by omega) hA hr2 rfl (by omega)
end Go.Proofs.YtbdokphemdkhmaaDoor
