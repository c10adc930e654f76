/- muntinref22: index, Agreed: the contracts. -/
import Derived.Test.YtaopipghooaekaaDoorQRefWon
import Derived.Maps.AppendAt
set_option linter.unusedVariables false
set_option linter.unusedSimpArgs false
namespace Go.Proofs.YtaopipghooaekaaDoor
open Go.RowKit

theorem idxOf_first {ms : List (Int × Int)} {x : Int} {k : Nat} (h : ∀ j (hj : j < k) (h' : j < ms.length), (ms[j]).1 ≠ x) (hk : k < ms.length) (e : (ms[k]).1 = x) : idxOf ms x = max (ms[k]).2 0 := by
  have hf : firstOf ms x = k := by
    unfold firstOf
    rw [List.findIdx_eq hk]
    exact ⟨by simp [e], fun j hj => by have := h j hj (by omega); simp [this]⟩
  unfold idxOf
  rw [hf]
  simp [List.getD, hk]
theorem idxOf_none {ms : List (Int × Int)} {x : Int} (h : ∀ j (hj : j < ms.length), (ms[j]).1 ≠ x) : idxOf ms x = 0 := by
  have hf : firstOf ms x = ms.length := by
    unfold firstOf
    rw [List.findIdx_eq_length]
    intro m hm
    obtain ⟨j, hj, rfl⟩ := List.mem_iff_getElem.1 hm
    simpa using h j hj
  unfold idxOf
  rw [hf]
  simp [List.getD]

set_option maxRecDepth 100000 in
set_option maxHeartbeats 1000000 in
theorem refindex_any (A : Option Addr) (n c : Nat) (ms : List (Int × Int)) (x : Int) (w : World) (hr : RM w A ms) (hl : ms.length = n) (hn : n ≤ 100000000000000) :
    Calls Tryd.prog 47 #[.slice A n c, .int .i64 x] w fun e w' => e = .returned (.int .i64 (idxOf ms x)) ∧ w' = w := by
  have HR := Lib.hid hr
  have HL := Lib.hid hl
  clear hr hl
  go_enter Tryd.func47, Tryd.ntmps47
  go_wp2_with fail
  go_loopg [5] n (fun q ki wr => ∃ k : Nat, q = n - k ∧ k ≤ n ∧ ki = .int .i64 k ∧ Hid (∀ j (hj : j < k) (h' : j < ms.length), (ms[j]).1 ≠ x) ∧ wr = w)
  case atStart => exact ⟨0, by omega, by omega, rfl, Lib.hid (fun j hj => by omega), rfl⟩
  case round =>
    obtain ⟨k, hm, hk, rfl, HF, rfl⟩ := hrel
    by_cases hkl : k < n
    · have hkl1 : (k : Int) < (n : Int) := by omega
      have hke : k < ms.length := by rw [HL.out]; exact hkl
      obtain ⟨g, o, rfl, hg, hc⟩ := HR.out.addr (by omega)
      obtain ⟨hc1, hc2⟩ := hc k hke
      have HI := Lib.hid (fun e => idxOf_first HF.out hke e)
      have HAT := Lib.hid (show ∀ y, y = ms[k] → y.1 ≠ x → ∀ j (hj : j < k + 1) (h' : j < ms.length), (ms[j]).1 ≠ x from fun y hy hne j hj h' => by
        by_cases hjk : j = k
        · subst hjk; rw [← hy]; exact hne
        · exact HF.out j (by omega) h')
      obtain ⟨⟨a, b⟩, hab⟩ : ∃ p, p = ms[k] := ⟨_, rfl⟩
      have HN := Lib.hid (HAT.out _ hab)
      rw [← hab] at hc1 hc2 HI
      simp only at hc1 hc2
      clear hc hab
      by_cases hax : a = x
      · have d : (a == x) = true := beq_iff_eq.2 hax
        have HAX := Lib.hid hax
        clear hax
        go_wp2_with fail
        go_ret
        exact ⟨by rw [HI.out HAX.out, Int.max_comm]; rfl, rfl⟩
      · have d : (a == x) = false := beq_eq_false_iff_ne.2 hax
        have HAX := Lib.hid hax
        clear hax
        go_wp2_with fail
        go_roundg (n - (k + 1))
        case measure => omega
        case rel => exact ⟨k + 1, rfl, by omega, by go_num, Lib.hid (HN.out HAX.out), rfl⟩
    · obtain rfl : k = n := by omega
      go_wp2_with fail
      go_ret
      exact ⟨by rw [idxOf_none fun j hj => HF.out j (by rw [← HL.out]; exact hj) hj]; rfl, rfl⟩

/-- those that have as much as v -/
def asMuch (ns : List Int) (ms : List (Int × Int)) (v : Int) : List Int := ns.filter fun u => decide (idxOf ms v ≤ idxOf ms u)
def bestStep (ns : List Int) (ms : List (Int × Int)) (b v : Int) : Int := if wonB ns (asMuch ns ms v) = true then max b (idxOf ms v) else b
def bestT (ns : List Int) (ms : List (Int × Int)) (l : List Int) : Int := l.foldl (bestStep ns ms) 0
theorem idxOf_nonneg (ms : List (Int × Int)) (v : Int) : 0 ≤ idxOf ms v := by unfold idxOf; omega
theorem best_le (ns : List Int) (ms : List (Int × Int)) (N : Int) (h : ∀ v ∈ ns, wonB ns (asMuch ns ms v) = true → idxOf ms v ≤ N) : ∀ (l : List Int) (b : Int), b ≤ N → (∀ v ∈ l, v ∈ ns) → l.foldl (bestStep ns ms) b ≤ N
  | [], b, hb, _ => hb
  | v :: l, b, hb, hl => by
    refine best_le ns ms N h l _ ?_ (fun u hu => hl u (by simp [hu]))
    unfold bestStep
    split
    · have := h v (hl v (by simp)) (by assumption)
      omega
    · exact hb
theorem best_mono (ns : List Int) (ms : List (Int × Int)) : ∀ (l : List Int) (b : Int), b ≤ l.foldl (bestStep ns ms) b
  | [], b => Int.le_refl _
  | v :: l, b => by
    refine Int.le_trans ?_ (best_mono ns ms l _)
    unfold bestStep
    split <;> omega
theorem best_ge (ns : List Int) (ms : List (Int × Int)) (v : Int) (hw : wonB ns (asMuch ns ms v) = true) : ∀ (l : List Int) (b : Int), v ∈ l → idxOf ms v ≤ l.foldl (bestStep ns ms) b
  | u :: l, b, h => by
    rcases List.mem_cons.1 h with rfl | h
    · refine Int.le_trans ?_ (best_mono ns ms l _)
      unfold bestStep
      rw [if_pos hw]
      omega
    · exact best_ge ns ms v hw l _ h
theorem among_mono (ns l l' : List Int) (h : ∀ x ∈ l, x ∈ l') : among ns l ≤ among ns l' := by
  unfold among
  rw [← List.countP_eq_length_filter, ← List.countP_eq_length_filter]
  apply List.countP_mono_left
  intro x _ hx
  simp at hx ⊢
  exact h x hx
theorem best_agreed {ns : List Int} (ms : List (Int × Int)) (h : rightB ns = true) : bestT ns ms ns = agreedT ns ms := by
  obtain ⟨h1, h5⟩ := right_len h
  have hk : (ns.length - 1) / 2 < (sorted (ns.map (idxOf ms))).length := by rw [sorted_length, List.length_map]; omega
  have ha : agreedT ns ms = (sorted (ns.map (idxOf ms)))[(ns.length - 1) / 2] := by rw [agreedT_ok h, getD_get _ _ hk]
  have hmem : agreedT ns ms ∈ ns.map (idxOf ms) := by rw [ha]; exact (sorted_perm _).mem_iff.1 (List.getElem_mem hk)
  obtain ⟨v, hv, hvN⟩ := List.mem_map.1 hmem
  apply Int.le_antisymm
  · refine best_le ns ms _ (fun u hu hw => ?_) ns 0 (by rw [← hvN]; exact idxOf_nonneg _ _) (fun _ h => h)
    by_cases hle : idxOf ms u ≤ agreedT ns ms
    · exact hle
    · exfalso
      have h2 := agreed_more ms h
      rw [wonB_ok h] at h2 hw
      have h3 := among_mono ns (asMuch ns ms u) (ns.filter fun v => decide (agreedT ns ms < idxOf ms v)) (fun x hx => by
        simp only [asMuch, List.mem_filter, decide_eq_true_eq] at hx ⊢
        exact ⟨hx.1, by omega⟩)
      unfold mostB at h2 hw
      simp only [decide_eq_true_eq, decide_eq_false_iff_not] at h2 hw
      omega
  · rw [← hvN]
    refine best_ge ns ms v ?_ ns 0 hv
    have := agreed_have ms h
    rw [← hvN] at this
    exact this
theorem bestT_next (ns : List Int) (ms : List (Int × Int)) (k : Nat) (hk : k < ns.length) : bestT ns ms (ns.take (k + 1)) = bestStep ns ms (bestT ns ms (ns.take k)) ns[k] := by
  unfold bestT
  rw [List.take_succ_eq_append_getElem hk, List.foldl_append]
  rfl
theorem much_next (ns : List Int) (k : Nat) (hk : k < ns.length) (p : Int → Bool) : (ns.take (k + 1)).filter p = (ns.take k).filter p ++ if p ns[k] = true then [ns[k]] else [] := by
  rw [List.take_succ_eq_append_getElem hk, List.filter_append]
  congr 1
  simp only [List.filter_cons, List.filter_nil]

set_option maxRecDepth 100000 in
set_option maxHeartbeats 2000000 in
theorem refagreed_any (A : Option Addr) (n c : Nat) (ns : List Int) (A2 : Option Addr) (n2 c2 : Nat) (ms : List (Int × Int)) (w : World) (hr : RI w A ns) (hl : ns.length = n) (hr2 : RM w A2 ms) (hl2 : ms.length = n2) (hn2 : n2 ≤ 10000000000000) (hb : rightB ns = true) :
    Calls Tryd.prog 26 #[.agg #[.slice A n c], .slice A2 n2 c2] w fun e w' => e = .returned (.int .i64 (agreedT ns ms)) ∧ Below w.heap.size w w' := by
  have hlen := right_len hb
  rw [hl] at hlen
  obtain ⟨h0, h5⟩ := hlen
  have ba := below_alloc w (.cells #[.slice A n c] 24)
  obtain ⟨wb, hwb⟩ : ∃ wb, wb = w.alloc (.cells #[.slice A n c] 24) := ⟨_, rfl⟩
  rw [← hwb] at ba
  have HB := Lib.hid (show ∀ w1, Below wb.heap.size wb w1 → w1.cell? ⟨w.heap.size, 0, none⟩ = some (.slice A n c) from fun w1 h => box_cell (by rw [← hwb]; exact h))
  have HIX := Lib.hid fun (w1 : World) (h : Below wb.heap.size wb w1) (x : Int) (y : Int) (hy : y = idxOf ms x) => (show Calls Tryd.prog 47 #[.slice A2 n2 c2, .int .i64 x] w1 fun e w' => e = .returned (.int .i64 y) ∧ w' = w1 from by rw [hy]; exact refindex_any A2 n2 c2 ms x w1 ((hr2.below ba).below h) hl2 (by omega))
  have HWO := Lib.hid fun (w1 : World) (h : Below wb.heap.size wb w1) (V : Option Addr) (m cm : Nat) (l : List Int) (q : Bool) (hq : wonB ns l = q) (ho : RI w1 V l) (hlm : l.length = m) (hm : m ≤ 100) => (show Calls Tryd.prog 22 #[.agg #[.slice A n c], .slice V m cm] w1 fun e w' => e = .returned (.bool q) ∧ Below w1.heap.size w1 w' from by rw [← hq]; exact refwon_any A n c ns V m cm l w1 ((hr.below ba).below h) hl (by omega) ho hlm (by omega))
  have HR := Lib.hid (hr.below ba)
  have HL := Lib.hid hl
  have HBA := Lib.hid (best_agreed ms hb)
  have HW := Lib.hid hwb
  clear hr hr2 hl hl2 hb hwb
  go_enter Tryd.func26, Tryd.ntmps26
  go_wp2_with fail
  go_loopg [5, 6] n (fun q bi ki wr => ∃ (k : Nat) (b : Int), q = n - k ∧ k ≤ n ∧ ki = .int .i64 k ∧ bi = .int .i64 b ∧ Hid (b = bestT ns ms (ns.take k)) ∧ Below wb.heap.size wb wr)
  case atStart => exact ⟨0, 0, by omega, by omega, rfl, rfl, Lib.hid (by simp [bestT]), by rw [HW.out]; exact Below.refl _ _⟩
  case round =>
    obtain ⟨k, b, hm, hk, rfl, rfl, HF, bel⟩ := hrel
    have q0 := HB.out _ bel
    by_cases hkl : k < n
    · have hkl1 : (k : Int) < (n : Int) := by omega
      have hke : k < ns.length := by rw [HL.out]; exact hkl
      have HN := Lib.hid (bestT_next ns ms k hke)
      obtain ⟨g, o, rfl, hg, hc⟩ := HR.out.addr (by omega)
      obtain ⟨v, hv⟩ : ∃ v, v = ns[k] := ⟨_, rfl⟩
      have hcv := hc k hke
      rw [← hv] at hcv HN
      have hcv2 := below_cell bel hcv
      obtain ⟨y, hy⟩ : ∃ y, y = idxOf ms v := ⟨_, rfl⟩
      have HY := Lib.hid hy
      have HC := Lib.hid hc
      clear hv hc hcv hy
      go_wp2_with (go_at_call 47; refine (HIX.out _ bel v y HY.out).mono ?_; rintro e w2 ⟨rfl, hw2⟩; obtain rfl : wr = w2 := hw2.symm)
      go_loopg [8, 9] n (fun q vi ki wr2 => ∃ (j : Nat) (V : Option Addr) (m cv : Nat), q = n - j ∧ j ≤ n ∧ ki = .int .i64 j ∧ vi = .slice V m cv ∧ m ≤ j ∧ wr2.ownsRow wr.heap.size 3 1 (.slice V m cv) m (iv ((ns.take j).filter fun u => decide (y ≤ idxOf ms u))) ∧ Below wr.heap.size wr wr2)
      case atStart => exact ⟨0, none, 0, 0, by omega, by omega, rfl, rfl, by omega, ⟨by simp [iv], .inl ⟨rfl, rfl⟩⟩, Below.refl _ _⟩
      case round =>
        obtain ⟨j, V, m, cv, hm2, hj, rfl, rfl, hmj, own, bel2⟩ := hrel
        have belw := below_then bel bel.size bel2
        have q1 := HB.out _ belw
        by_cases hjl : j < n
        · have hjl1 : (j : Int) < (n : Int) := by omega
          have hje : j < ns.length := by rw [HL.out]; exact hjl
          have HMU := Lib.hid (much_next ns j hje fun u => decide (y ≤ idxOf ms u))
          obtain ⟨u, hu⟩ : ∃ u, u = ns[j] := ⟨_, rfl⟩
          have hcu := below_cell belw (HC.out j hje)
          rw [← hu] at hcu HMU
          obtain ⟨z, hz⟩ : ∃ z, z = idxOf ms u := ⟨_, rfl⟩
          have HZ := Lib.hid hz
          rw [← hz] at HMU
          clear hu hz
          by_cases hyz : y ≤ z
          · have d := decide_eq_true hyz
            have HD := Lib.hid d
            clear hyz
            go_wp2_with (first
              | (go_at_call 47; refine (HIX.out _ belw u z HZ.out).mono ?_; rintro e w2 ⟨rfl, hw2⟩; obtain rfl : wr = w2 := hw2.symm)
              | (at_builtin; refine wpList_append_one wr rfl (.tmp 41) (.tmp 47) 22 rfl _ 3 (.int .i64 0) 8 Tryd.underlying22 info_int rfl (.slice V m cv) m (iv _) rfl own (.int .i64 u) rfl rfl (by unfold maxLen; omega) (by omega) bel2.size ?_; intro v4 w4 own4 hg4; obtain ⟨V4, c4, rfl, -, -⟩ := own_shape own4))
            go_roundg (n - (j + 1))
            case measure => omega
            case rel =>
              refine ⟨j + 1, V4, m + 1, c4, rfl, by omega, by go_num, rfl, by omega, ?_, grown_below bel2 own hg4 bel2.size (Nat.le_refl _)⟩
              rw [HMU.out, if_pos HD.out, iv_append]
              exact own4
          · have d := decide_eq_false hyz
            have HD := Lib.hid d
            clear hyz
            go_wp2_with (first
              | (go_at_call 47; refine (HIX.out _ belw u z HZ.out).mono ?_; rintro e w2 ⟨rfl, hw2⟩; obtain rfl : wr = w2 := hw2.symm))
            go_roundg (n - (j + 1))
            case measure => omega
            case rel =>
              refine ⟨j + 1, V, m, cv, rfl, by omega, by go_num, rfl, by omega, ?_, bel2⟩
              rw [HMU.out, if_neg (by rw [HD.out]; decide), List.append_nil]
              exact own
        · obtain rfl : j = n := by omega
          rw [List.take_of_length_le (by rw [HL.out]; exact Nat.le_refl _)] at own
          have hml : (ns.filter fun u => decide (y ≤ idxOf ms u)).length = m := by simpa using own.1
          obtain ⟨r, hr⟩ : ∃ r, r = wonB ns (ns.filter fun u => decide (y ≤ idxOf ms u)) := ⟨_, rfl⟩
          have HRR := Lib.hid hr
          have HWQ := Lib.hid (HWO.out _ belw V m cv _ r hr.symm (RI.own own) hml (by omega))
          have HBS := Lib.hid (show bestStep ns ms b v = if r = true then max b y else b by rw [hr, HY.out]; rfl)
          clear hr hml own
          cases r with
          | true =>
            go_wp2_with (go_at_call 22; refine HWQ.out.mono ?_; rintro e w5 ⟨rfl, b5⟩)
            go_roundg (j - (k + 1))
            case measure => omega
            case rel => exact ⟨k + 1, max b y, rfl, by omega, by go_num, rfl, Lib.hid (by rw [HN.out, ← HF.out, HBS.out]; rfl), below_then belw belw.size b5⟩
          | false =>
            go_wp2_with (go_at_call 22; refine HWQ.out.mono ?_; rintro e w5 ⟨rfl, b5⟩)
            go_roundg (j - (k + 1))
            case measure => omega
            case rel => exact ⟨k + 1, b, rfl, by omega, by go_num, rfl, Lib.hid (by rw [HN.out, ← HF.out, HBS.out]; rfl), below_then belw belw.size b5⟩
    · obtain rfl : k = n := by omega
      go_wp2_with fail
      go_ret
      refine ⟨?_, ba.trans (bel.mono ba.size)⟩
      have := HF.out
      rw [List.take_of_length_le (by rw [HL.out]; exact Nat.le_refl _), HBA.out] at this
      rw [← this]
      rfl
end Go.Proofs.YtaopipghooaekaaDoor
