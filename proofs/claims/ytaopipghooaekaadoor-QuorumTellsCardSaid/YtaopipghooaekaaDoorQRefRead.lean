/- muntinref22.Read: the contract. -/
import Derived.Test.YtaopipghooaekaaDoorQNum
set_option linter.unusedVariables false
set_option linter.unusedSimpArgs false
namespace Go.Proofs.YtaopipghooaekaaDoor
open Go.RowKit

theorem own_stepr {w w' : World} {base : Nat} {e : TypeId} {size n : Nat} {v : Value} {xs : List Value} (h : w.ownsRow base e size v n xs) (hb : ∀ k, v.ownBlock = some k → w'.heap[k]? = w.heap[k]?) : w'.ownsRow base e size v n xs := by
  refine ⟨h.1, ?_⟩
  rcases h.2 with h1 | ⟨g, cap, cur, rfl, hg, hh, r⟩
  · exact .inl h1
  · exact .inr ⟨g, cap, cur, rfl, hg, by rw [hb g rfl]; exact hh, r⟩
/-- the cells that Read writes: its answer, its variable c, the voters' row -/
structure RC (w0 w : World) (p2 p7 base : Nat) (V : Option Addr) (k cv : Nat) (ns : List Int) : Prop where
  res : w.heap[p2]? = some (.cells #[.slice none 0 0] 24 (0, 0))
  var : w.heap[p7]? = some (.cells #[.slice V k cv] 24 (0, 0))
  own : w.ownsRow base 3 1 (.slice V k cv) k (iv ns)
  bel : Below w0.heap.size w0 w
  size : base ≤ w.heap.size
  o2 : p2 < base
  o7 : p7 < base
  ne : p2 ≠ p7
  z2 : w0.heap.size ≤ p2
  z7 : w0.heap.size ≤ p7
theorem RC.push {w0 w w4 : World} {p2 p7 base : Nat} {V V4 : Option Addr} {k cv c4 : Nat} {ns : List Int} {x : Int} {o : Obj} (h : RC w0 w p2 p7 base V k cv ns)
    (hg : (w.alloc o).grownBy w4 (Value.slice V k cv).ownBlock) (own4 : w4.ownsRow base 3 1 (.slice V4 (k + 1) c4) (k + 1) (iv (ns ++ [x]))) :
    RC w0 (w4.setCell ⟨p7, 0, none⟩ (.slice V4 (k + 1) c4)) p2 p7 base V4 (k + 1) c4 (ns ++ [x]) := by
  have hsz := h.size
  have ho2 := h.o2
  have ho7 := h.o7
  have key : ∀ j, j < base → w4.heap[j]? = w.heap[j]? := fun j hj => by
    rw [hg.block j (by simp; omega) (fun e => by have := (h.own.lt j e.symm).1; omega)]
    exact (below_alloc w o).block j (by omega)
  have hs4 : base ≤ w4.heap.size := by have := hg.size; simp at this; omega
  refine ⟨?_, heap_setCell_same _ _ _ _ _ _ ((key p7 ho7).trans h.var), ?_, ?_, by rw [World.size_setCell]; exact hs4, ho2, ho7, h.ne, h.z2, h.z7⟩
  · rw [heap_setCell_other _ _ _ _ h.ne, key p2 ho2]
    exact h.res
  · exact own_stepr own4 fun j hj => heap_setCell_other _ _ _ _ (by have := (own4.lt j hj).1; show j ≠ p7; omega)
  · exact (h.bel.trans ⟨hg.os, hg.tape, hg.output, by have := hg.size; simp at this; omega, fun j hj => key j (by have := h.z2; omega)⟩).setCell (by exact h.z7) _
/-- a step that writes one block beside -/
theorem RC.kept {w0 w w' : World} {p p2 p7 base : Nat} {V : Option Addr} {k cv : Nat} {ns : List Int} (h : RC w0 w p2 p7 base V k cv ns)
    (hg : w.grownBy w' (some p)) (h0 : w0.heap.size ≤ p) (h1 : p < base) (h2 : p ≠ p2) (h7 : p ≠ p7) : RC w0 w' p2 p7 base V k cv ns := by
  have hsz := h.size
  have key : ∀ j, j < w.heap.size → j ≠ p → w'.heap[j]? = w.heap[j]? := fun j hj hn => hg.block j hj (fun e => hn (by cases e; rfl))
  exact ⟨(key p2 (by have := h.o2; omega) (Ne.symm h2)).trans h.res, (key p7 (by have := h.o7; omega) (Ne.symm h7)).trans h.var,
    own_stepr h.own fun j hj => key j (h.own.lt j hj).2 (by have := (h.own.lt j hj).1; omega), h.bel.grown hg (by have := h.bel.size; omega) (fun j hj => by cases hj; exact h0), Nat.le_trans h.size hg.size, h.o2, h.o7, h.ne, h.z2, h.z7⟩
theorem RC.below {w0 w w' : World} {p2 p7 base : Nat} {V : Option Addr} {k cv : Nat} {ns : List Int} (h : RC w0 w p2 p7 base V k cv ns) (b : Below w.heap.size w w') : RC w0 w' p2 p7 base V k cv ns :=
  ⟨(b.block _ (by have := h.o2; have := h.size; omega)).trans h.res, (b.block _ (by have := h.o7; have := h.size; omega)).trans h.var, own_below h.own b, below_then h.bel h.bel.size b, Nat.le_trans h.size b.size, h.o2, h.o7, h.ne, h.z2, h.z7⟩
theorem RC.cell2 {w0 w : World} {p2 p7 base : Nat} {V : Option Addr} {k cv : Nat} {ns : List Int} (h : RC w0 w p2 p7 base V k cv ns) : w.cell? ⟨p2, 0, none⟩ = some (.slice none 0 0) := by simp [World.cell?, h.res]
theorem RC.cell7 {w0 w : World} {p2 p7 base : Nat} {V : Option Addr} {k cv : Nat} {ns : List Int} (h : RC w0 w p2 p7 base V k cv ns) : w.cell? ⟨p7, 0, none⟩ = some (.slice V k cv) := by simp [World.cell?, h.var]
theorem RC.fz2 {w0 w : World} {p2 p7 base : Nat} {V : Option Addr} {k cv : Nat} {ns : List Int} (h : RC w0 w p2 p7 base V k cv ns) : w.frozen? ⟨p2, 0, none⟩ = false := by simp [World.frozen?, h.res]
theorem RC.fz7 {w0 w : World} {p2 p7 base : Nat} {V : Option Addr} {k cv : Nat} {ns : List Int} (h : RC w0 w p2 p7 base V k cv ns) : w.frozen? ⟨p7, 0, none⟩ = false := by simp [World.frozen?, h.var]

theorem RC.var4 {w0 w w4 : World} {p2 p7 base : Nat} {V : Option Addr} {k cv : Nat} {ns : List Int} {o : Obj} (h : RC w0 w p2 p7 base V k cv ns)
    (hg : (w.alloc o).grownBy w4 (Value.slice V k cv).ownBlock) : w4.heap[p7]? = some (.cells #[.slice V k cv] 24 (0, 0)) := by
  have hsz := h.size
  have ho7 := h.o7
  rw [hg.block p7 (by simp; omega) (fun e => by have := (h.own.lt p7 e.symm).1; omega), (below_alloc w o).block p7 (by omega)]
  exact h.var
theorem cell_of' {w : World} {p : Nat} {v : Value} {t : TypeId} (h : w.heap[p]? = some (.cells #[v] t (0, 0))) : w.cell? ⟨p, 0, none⟩ = some v := by simp [World.cell?, h]
theorem frozen_of' {w : World} {p : Nat} {v : Value} {t : TypeId} (h : w.heap[p]? = some (.cells #[v] t (0, 0))) : w.frozen? ⟨p, 0, none⟩ = false := by simp [World.frozen?, h]
theorem RC.start (w : World) : RC w ((w.alloc (.cells #[.slice none 0 0] 24)).alloc (.cells #[.slice none 0 0] 24)) w.heap.size (w.heap.size + 1) (w.heap.size + 2) none 0 0 [] := by
  have b := below_alloc (w.alloc (.cells #[.slice none 0 0] 24)) (.cells #[.slice none 0 0] 24)
  refine ⟨?_, ?_, ⟨by simp [iv], .inl ⟨rfl, rfl⟩⟩, ((below_alloc w _).alloc (by simp) _), by simp, by omega, by omega, by omega, Nat.le_refl _, by omega⟩
  · rw [b.block _ (by simp)]; exact heap_alloc_new w _
  · have := heap_alloc_new (w.alloc (.cells #[.slice none 0 0] 24)) (.cells #[.slice none 0 0] 24)
    simpa using this

set_option maxRecDepth 100000 in
set_option maxHeartbeats 2000000 in
theorem rread_any (A : Option Addr) (n c : Nat) (bs : List UInt8) (w : World) (hr : RB w A bs) (hl : bs.length = n) (hc : n ≤ c) (hn : n ≤ 140737488351232) :
    Calls Tryd.prog 19 #[.slice A n c] w fun e w' => ∃ V m cv, e = .returned (.tuple #[.agg #[.slice V m cv], .int .i64 (readE bs)]) ∧ (readV bs).length = m ∧ RI w' V (readV bs) ∧ Below w.heap.size w w' := by
  have b0 := below_alloc w (.cells #[.slice none 0 0] 24)
  have hT := rtakenum_any A n c bs _ hl hc hn (hr.below b0)
  by_cases he : takeE bs = 0
  · have hv := numI_ok he
    have hu := takeN_le bs
    have hrl := numR_len bs
    have hrd : numR bs = bs.drop (takeN bs) := rfl
    have hp1 : 1 ≤ takeN bs := by unfold takeN; rw [if_pos he]; omega
    obtain ⟨u, hu2⟩ : ∃ u, u = takeN bs := ⟨_, rfl⟩
    obtain ⟨v, hv2⟩ : ∃ v, v = takeV bs := ⟨_, rfl⟩
    rw [he] at hT
    rw [← hu2, ← hv2] at hT
    rw [← hu2] at hu hrl hrd hp1
    rw [← hv2] at hv
    have HT := Lib.hid hT
    have HV := Lib.hid hv
    clear hT hu2 hv2 he hv
    by_cases hv5 : 5 < v
    · have hrb := read_many (b := bs) (by rw [HV.out]; omega)
      rw [readE_no hrb, readV_no hrb]
      have hv51 : (5 : Int) < (v : Int) := by omega
      clear hrb hrl hrd hu
      go_enter Tryd.func19, Tryd.ntmps19
      go_wp2_with (go_at_call 43; refine HT.out.mono ?_; rintro e w1 ⟨rfl, h1⟩; obtain rfl := h1.symm)
      exact bodyPost_ret (v := .tuple #[.agg #[.slice none 0 0], .int .i64 4]) (by simp [results, Tryd.results19, go_sem]) rfl ⟨none, 0, 0, rfl, rfl, RI.nil _ _, b0⟩
    · obtain ⟨g, o, rfl, hg, -⟩ := hr.addr (by omega)
      have HRR := Lib.hid (show ∀ A', (A' = some ⟨g, o, none⟩ ∧ n = u ∨ A' = some ⟨g, o + u, none⟩) → RB w A' (numR bs) by
        rintro A' (⟨rfl, h⟩ | rfl)
        · rw [List.eq_nil_of_length_eq_zero (l := numR bs) (by omega)]; exact RB.nil _ _
        · rw [hrd]; exact hr.drop u)
      obtain ⟨r, hrr⟩ : ∃ r, r = numR bs := ⟨_, rfl⟩
      rw [← hrr] at hrl HRR
      have HRL := Lib.hid (show r.length = n - u by omega)
      have hun : u ≤ n := by omega
      have HR := Lib.hid hrr
      have HL := Lib.hid hl
      clear hrl hrd hu hrr hl
      have hv51 : ¬ (5 : Int) < (v : Int) := by omega
      have hvi : (v : Int) ≤ 5 := by omega
      go_enter Tryd.func19, Tryd.ntmps19
      go_wp2_with (go_at_call 43; refine HT.out.mono ?_; rintro e w1 ⟨rfl, h1⟩; obtain rfl := h1.symm)
      all_goals
        have hs0 := RC.start w
        have HRB := Lib.hid (HRR.out _ (by first | exact .inl ⟨rfl, by omega⟩ | exact .inr rfl))
        go_loopg [0, 8] v (fun q bi ki wr => ∃ (k : Nat) (B : Option Addr) (m cb : Nat) (V : Option Addr) (cv : Nat), q = v - k ∧ k ≤ v ∧ ki = .int .i64 k ∧ bi = .slice B m cb ∧ Hid ((numsR k r).length = m) ∧ m ≤ cb ∧ m ≤ n ∧ Hid (RB w B (numsR k r)) ∧ RC w wr w.heap.size (w.heap.size + 1) (w.heap.size + 2) V k cv (numsI k r))
        case atStart => exact ⟨0, _, n - u, _, none, 0, by omega, by omega, rfl, rfl, Lib.hid HRL.out, by omega, by omega, HRB, hs0⟩
        case round =>
          clear hs0
          obtain ⟨k, B, m, cb, V, cv, hq, hk, rfl, rfl, HM, hmc, hmn, HB, rc⟩ := hrel
          have q2 := rc.cell2
          have f2 := rc.fz2
          have q7 := rc.cell7
          have f7 := rc.fz7
          by_cases hkl : k < v
          · have hkl1 : (k : Int) < (v : Int) := by omega
            have hT2 := rtakenum_any B m cb (numsR k r) wr HM.out hmc (by omega) (HB.out.below rc.bel)
            by_cases he2 : takeE (numsR k r) = 0
            · have hu3 := takeN_le (numsR k r)
              have hp3 : 1 ≤ takeN (numsR k r) := by unfold takeN; rw [if_pos he2]; omega
              have hv3 := numI_ok he2
              have hr3 : (numsR (k + 1) r).length = (numsR k r).length - takeN (numsR k r) := by rw [numsR_succ, numR_len]
              have hd3 : numsR (k + 1) r = (numsR k r).drop (takeN (numsR k r)) := by rw [numsR_succ]; rfl
              have hi3 : numsI (k + 1) r = numsI k r ++ [(takeV (numsR k r) : Int)] := by rw [numsI_succ, hv3]
              rw [he2] at hT2
              obtain ⟨u2, hu2⟩ : ∃ u, u = takeN (numsR k r) := ⟨_, rfl⟩
              obtain ⟨v2, hv2⟩ : ∃ v, v = takeV (numsR k r) := ⟨_, rfl⟩
              rw [← hu2, ← hv2] at hT2
              rw [← hu2] at hu3 hp3 hr3 hd3
              rw [← hv2] at hi3
              rw [HM.out] at hu3 hr3
              obtain ⟨g2, o2, rfl, hg2, -⟩ := HB.out.addr (by rw [HM.out]; omega)
              have HB3 := Lib.hid (show RB w (some ⟨g2, o2 + u2, none⟩) (numsR (k + 1) r) by rw [hd3]; exact HB.out.drop u2)
              have HB0 := Lib.hid (show m = u2 → RB w (some ⟨g2, o2, none⟩) (numsR (k + 1) r) from fun h => by rw [List.eq_nil_of_length_eq_zero (l := numsR (k + 1) r) (by omega)]; exact RB.nil _ _)
              have HT3 := Lib.hid hT2
              have HI3 := Lib.hid hi3
              have HR3 := Lib.hid hr3
              have HC := Lib.hid rc
              have own := rc.own
              have hsz := rc.size
              clear hT2 hi3 hr3 hd3 hv3 he2 hu2 hv2 rc q2 f2
              go_wp2_with (first
                | (go_at_call 43; refine HT3.out.mono ?_; rintro e w3 ⟨rfl, h3⟩; obtain rfl : wr = w3 := h3.symm)
                | (at_builtin; refine wpList_append_one wr rfl (.tmp 44) (.tmp 46) 22 rfl _ 3 (.int .i64 0) 8 Tryd.underlying22 info_int rfl (.slice V k cv) k (iv _) rfl own (.int .i64 v2) rfl rfl (by unfold maxLen; omega) (by omega) hsz ?_; intro v4 w4 own4 hg4; obtain ⟨V4, c4, rfl, -, -⟩ := own_shape own4; (have h4 := HC.out.var4 hg4); (have q4 := cell_of' h4); have f4 := frozen_of' h4))
              all_goals
                go_roundg (v - (k + 1))
                case measure => omega
                case rel =>
                  refine ⟨k + 1, _, m - u2, _, V4, c4, rfl, by omega, by go_num, rfl, Lib.hid HR3.out, by omega, by omega, Lib.hid (by first | exact HB0.out (by omega) | exact HB3.out), ?_⟩
                  rw [HI3.out]
                  exact HC.out.push hg4 (by rw [iv_append]; exact own4)
            · have hrb : readB bs = false := by
                rw [read_at HV.out (by omega) (by omega), ← HR.out, right_bad hkl he2, Bool.and_false]
              have HE := Lib.hid (readE_no hrb)
              have HVV := Lib.hid (readV_no hrb)
              have HT2 := Lib.hid hT2
              have hei : ¬ ((takeE (numsR k r) : Nat) : Int) = 0 := by omega
              obtain ⟨E, hE⟩ : ∃ E, E = takeE (numsR k r) := ⟨_, rfl⟩
              rw [← hE] at HT2 hei
              clear hT2 he2 hE hrb
              go_wp2_with (go_at_call 43; refine HT2.out.mono ?_; rintro e w3 ⟨rfl, h3⟩; obtain rfl : wr = w3 := h3.symm)
              have q := World.cell?_setCell_same _ _ (.slice none 0 0) rc.cell2
              exact bodyPost_ret (v := .tuple #[.agg #[.slice none 0 0], .int .i64 4]) (by simp [results, Tryd.results19, go_sem, q]) rfl ⟨none, 0, 0, by rw [HE.out]; rfl, by rw [HVV.out]; rfl, by rw [HVV.out]; exact RI.nil _ _, rc.bel.setCell (by exact rc.z2) _⟩
          · obtain rfl : k = v := by omega
            have HQ := Lib.hid (refright_any V k cv (numsI k r) wr (RI.own rc.own) (numsI_len _ _) (by omega))
            by_cases hgood : rightB (numsI k r) = true ∧ m = 0
            · obtain ⟨hq2, hm0⟩ := hgood
              have hk0 := right_len hq2
              rw [numsI_len] at hk0
              have hrb : readB bs = true := by
                rw [read_at HV.out (by omega) (by omega), ← HR.out, hq2, HM.out, hm0]; rfl
              have HE := Lib.hid (readE_ok hrb)
              have HVV := Lib.hid (show readV bs = numsI k r by rw [readV_ok HV.out hrb, HR.out])
              rw [hq2] at HQ
              have HC := Lib.hid rc
              clear q2 f2 f7 hk0 hrb rc hq2
              go_wp2_with (go_at_call 17; refine HQ.out.mono ?_; rintro e w3 ⟨rfl, b3⟩; (have rc3 := HC.out.below b3); (have q2 := rc3.cell2); (have f2 := rc3.fz2); have q7 := rc3.cell7; have f7 := rc3.fz7)
              have q := World.cell?_setCell_same _ _ (.slice V k cv) rc3.cell2
              exact bodyPost_ret (v := .tuple #[.agg #[.slice V k cv], .int .i64 0]) (by simp [results, Tryd.results19, go_sem, q]) rfl ⟨V, k, cv, by rw [HE.out]; rfl, by rw [HVV.out]; exact numsI_len _ _, by rw [HVV.out]; exact (RI.own rc3.own).step fun a ha h0 => heap_setCell_other _ _ _ _ (by have := (rc3.own.lt a.block (by rw [ha]; rfl)).1; show a.block ≠ w.heap.size; omega), rc3.bel.setCell (by exact rc3.z2) _⟩
            · have hrb : readB bs = false := by
                by_cases hk0 : k = 0
                · exact read_none (by rw [HV.out]; omega)
                · rw [read_at HV.out (by omega) (by omega), ← HR.out, HM.out]
                  cases h3 : rightB (numsI k r) with
                  | false => simp
                  | true => simp; exact fun h => hgood ⟨h3, h⟩
              have HE := Lib.hid (readE_no hrb)
              have HVV := Lib.hid (readV_no hrb)
              have HC := Lib.hid rc
              cases hq2 : rightB (numsI k r) with
              | true =>
                rw [hq2] at HQ
                have hm0 : 0 < m := by
                  rcases Nat.eq_zero_or_pos m with h | h
                  · exact absurd ⟨hq2, h⟩ hgood
                  · exact h
                have hm1 : (0 : Int) < (m : Int) := by omega
                clear q2 f2 f7 hgood hrb rc hq2
                go_wp2_with (go_at_call 17; refine HQ.out.mono ?_; rintro e w3 ⟨rfl, b3⟩; (have rc3 := HC.out.below b3); (have q2 := rc3.cell2); (have f2 := rc3.fz2); have q7 := rc3.cell7; have f7 := rc3.fz7)
                have q := World.cell?_setCell_same _ _ (.slice none 0 0) rc3.cell2
                exact bodyPost_ret (v := .tuple #[.agg #[.slice none 0 0], .int .i64 4]) (by simp [results, Tryd.results19, go_sem, q]) rfl ⟨none, 0, 0, by rw [HE.out]; rfl, by rw [HVV.out]; rfl, by rw [HVV.out]; exact RI.nil _ _, rc3.bel.setCell (by exact rc3.z2) _⟩
              | false =>
                rw [hq2] at HQ
                clear q2 f2 f7 hgood hrb rc hq2
                go_wp2_with (go_at_call 17; refine HQ.out.mono ?_; rintro e w3 ⟨rfl, b3⟩; (have rc3 := HC.out.below b3); (have q2 := rc3.cell2); (have f2 := rc3.fz2); have q7 := rc3.cell7; have f7 := rc3.fz7)
                have q := World.cell?_setCell_same _ _ (.slice none 0 0) rc3.cell2
                exact bodyPost_ret (v := .tuple #[.agg #[.slice none 0 0], .int .i64 4]) (by simp [results, Tryd.results19, go_sem, q]) rfl ⟨none, 0, 0, by rw [HE.out]; rfl, by rw [HVV.out]; rfl, by rw [HVV.out]; exact RI.nil _ _, rc3.bel.setCell (by exact rc3.z2) _⟩
  · have hrb := read_neg he
    rw [readE_no hrb, readV_no hrb]
    have HT := Lib.hid hT
    have hei : ¬ ((takeE bs : Nat) : Int) = 0 := by omega
    obtain ⟨E, hE⟩ : ∃ E, E = takeE bs := ⟨_, rfl⟩
    rw [← hE] at HT hei
    obtain ⟨T, hT2⟩ : ∃ T, T = takeV bs := ⟨_, rfl⟩
    obtain ⟨N, hN⟩ : ∃ N, N = takeN bs := ⟨_, rfl⟩
    rw [← hT2, ← hN] at HT
    clear hT he hrb hE hT2 hN
    go_enter Tryd.func19, Tryd.ntmps19
    go_wp2_with (go_at_call 43; refine HT.out.mono ?_; rintro e w1 ⟨rfl, h1⟩; obtain rfl := h1.symm)
    exact bodyPost_ret (v := .tuple #[.agg #[.slice none 0 0], .int .i64 4]) (by simp [results, Tryd.results19, go_sem]) rfl ⟨none, 0, 0, rfl, rfl, RI.nil _ _, b0⟩
end Go.Proofs.YtaopipghooaekaaDoor
