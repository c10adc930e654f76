/- muntinlaw01.Owned: rows of which each has a block of its own. -/
import Derived.Test.YtkjpfjgaabbggaaDoorLent
import Derived.Test.YtkjpfjgaabbggaaDoorTAdd
import Derived.Laws.AppendOwn
import Derived.Deep.QuietTactic
import Derived.BigQuiet
import Derived.Deep.LoopGhost
import Derived.Laws.Rows
set_option linter.unusedVariables false
set_option linter.unusedSimpArgs false
namespace Go.Proofs.YtkjpfjgaabbggaaDoor
open Go.RowKit

/-- A row with a block of its own; where it is full, all its cells hold b. -/
def Room (w : World) (v : Value) (full : Prop) (b : Int) : Prop :=
  v = .slice none 0 0 ∨ ∃ g n cap cur, v = .slice (some ⟨g, 0, none⟩) n cap ∧ w.heap[g]? = some (.cells cur 5 (0, 0)) ∧ n ≤ cap ∧ cap ≤ maxLen ∧ cap ≤ cur.size ∧ (full → ∀ j, j < cap → cur[j]? = some (.int .u8 b))
theorem Room.step {w w' : World} {v : Value} {m m' : Prop} {b : Int} (h : Room w v m b) (hb : ∀ k, v.ownBlock = some k → w'.heap[k]? = w.heap[k]?) (hm : m' → m) : Room w' v m' b := by
  rcases h with rfl | ⟨g, n, cap, cur, rfl, hg, r1, r2, r3, r4⟩
  · exact .inl rfl
  · exact .inr ⟨g, n, cap, cur, rfl, by rw [hb g rfl]; exact hg, r1, r2, r3, fun h => r4 (hm h)⟩
theorem Room.zero {w : World} {v : Value} {m m' : Prop} {b b' : Int} (h : Room w v m b) (hm : ¬ m') : Room w v m' b' := by
  rcases h with rfl | ⟨g, n, cap, cur, rfl, hg, r1, r2, r3, _⟩
  · exact .inl rfl
  · exact .inr ⟨g, n, cap, cur, rfl, hg, r1, r2, r3, fun h => absurd h hm⟩
theorem Room.own {w : World} {base n : Nat} {v : Value} {xs : List Value} (h : w.ownsRow base 5 1 v n xs) : Room w v False 0 := by
  rcases h.2 with ⟨rfl, _⟩ | ⟨g, cap, cur, rfl, hg, hh, r1, r2, r3, _⟩
  · exact .inl rfl
  · exact .inr ⟨g, n, cap, cur, rfl, hh, r1, r2, by omega, fun h => h.elim⟩
/-- what two worlds share outside some blocks -/
structure Out (S : Nat → Prop) (w w' : World) : Prop where
  os : w'.os = w.os
  tape : w'.tape = w.tape
  output : w'.output = w.output
  size : w'.heap.size = w.heap.size
  block : ∀ k, ¬ S k → w'.heap[k]? = w.heap[k]?
theorem Out.refl (S : Nat → Prop) (w : World) : Out S w w := ⟨rfl, rfl, rfl, rfl, fun _ _ => rfl⟩
theorem Out.trans {S : Nat → Prop} {a b c : World} (h : Out S a b) (k : Out S b c) : Out S a c :=
  ⟨k.os.trans h.os, k.tape.trans h.tape, k.output.trans h.output, k.size.trans h.size, fun i hi => (k.block i hi).trans (h.block i hi)⟩
theorem Out.mono {S T : Nat → Prop} {a b : World} (h : Out S a b) (hs : ∀ k, S k → T k) : Out T a b := ⟨h.os, h.tape, h.output, h.size, fun k hk => h.block k fun hs' => hk (hs k hs')⟩
theorem Out.drewN {S : Nat → Prop} {a b : World} (h : Out S a b) (m : Nat) : Out S a (b.drewN m) := ⟨h.os, h.tape, h.output, h.size, h.block⟩
theorem Out.setCell {S : Nat → Prop} {a b : World} (h : Out S a b) (p : Addr) (v : Value) (hp : S p.block) : Out S a (b.setCell p v) :=
  ⟨h.os, h.tape, h.output, by rw [World.size_setCell]; exact h.size, fun k hk => by rw [heap_setCell_other _ _ _ _ (fun e => hk (by rw [e]; exact hp))]; exact h.block k hk⟩
theorem Out.below {S : Nat → Prop} {B : Nat} {a b c : World} (k : Out S b c) (h : Below B a b) (hs : ∀ k, S k → B ≤ k) : Below B a c :=
  ⟨k.os.trans h.os, k.tape.trans h.tape, k.output.trans h.output, by rw [k.size]; exact h.size, fun i hi => (k.block i fun s => by have := hs i s; omega).trans (h.block i hi)⟩

/-- rows with blocks of their own, no two the same, the first i of them filled -/
def Rooms (w : World) (vs : List Value) (i : Nat) : Prop := ∀ j (h : j < vs.length), Room w vs[j] (j < i) (((j + 1) % 256 : Nat) : Int)
def Apart (vs : List Value) : Prop := ∀ i j (hi : i < vs.length) (hj : j < vs.length), i ≠ j → ∀ k, vs[i].ownBlock = some k → vs[j].ownBlock ≠ some k
def OwnB (vs : List Value) (k : Nat) : Prop := ∃ v ∈ vs, v.ownBlock = some k

set_option maxRecDepth 100000 in
set_option maxHeartbeats 2000000 in
theorem owned_any (R o c : Nat) (vs : List Value) (w : World) (hn : vs.length ≤ 140737488351232) (hc : ∀ i (h : i < vs.length), w.cell? ⟨R, o + i, none⟩ = some vs[i]) (hr : Rooms w vs 0) (ha : Apart vs) (hR : ∀ v ∈ vs, v.ownBlock ≠ some R) :
    Calls Tryd.prog 43 #[.slice (some ⟨R, o, none⟩) vs.length c] w fun e w' => e = .returned (.bool true) ∧ Out (OwnB vs) w w' ∧ Rooms w' vs vs.length := by
  have hRS : ¬ OwnB vs R := fun ⟨v, hv, h⟩ => hR v hv h
  go_enter Tryd.func43, Tryd.ntmps43
  go_wp2_with fail
  go_loopg [3, 4, 5] vs.length (fun m ti l k wr => ∃ i : Nat, m = vs.length - i ∧ i ≤ vs.length ∧ ti = .int .i64 i ∧ Out (OwnB vs) w wr ∧ Rooms wr vs i)
  case atStart => exact ⟨0, by omega, by omega, rfl, Out.refl _ _, hr⟩
  case round =>
    obtain ⟨i, hm, hi, rfl, hout, hrs⟩ := hrel
    by_cases hin : i < vs.length
    · have hin1 : (i : Int) < (vs.length : Int) := by omega
      have hcell : wr.cell? ⟨R, o + i, none⟩ = some vs[i] := by rw [cell_block (hout.block R hRS)]; exact hc i hin
      have hrm := hrs i hin
      obtain ⟨vi, hvi⟩ : ∃ v, v = vs[i] := ⟨_, rfl⟩
      rw [← hvi] at hcell hrm
      have hcd : ∀ m, (wr.drewN m).cell? ⟨R, o + i, none⟩ = some vi := fun m => hcell
      have HVI := Lib.hid hvi
      have HRS := Lib.hid hrs
      clear hvi hrs hcell
      rcases hrm with rfl | ⟨g, n, cap, cur, rfl, hg, h1, h2, h3, _⟩
      · go_wp2_with fail
        go_quiet (fail)
        clear hcd
        go_wp2_with fail
        refine wp_loop_rounds 1 ?_
        rw [rounds_succ]
        go_wp2_with fail
        go_roundg (vs.length - (i + 1))
        case measure => omega
        case rel =>
          refine ⟨i + 1, rfl, by omega, by go_num, hout.drewN nq, fun j hj => ?_⟩
          by_cases hji : j = i
          · subst hji
            rw [← HVI.out]
            exact .inl rfl
          · exact (HRS.out j hj).step (fun _ _ => rfl) (fun h => by omega)
      · go_wp2_with fail
        go_quiet (fail)
        clear hcd
        go_wp2_with fail
        obtain ⟨b, hb⟩ : ∃ b : Nat, b = (i + 1) % 256 := ⟨_, rfl⟩
        have hb2 : ((i : Int) + 1) % 256 = (b : Int) := by omega
        have HB := Lib.hid hb
        have HM := Lib.hid h2
        clear hb h2
        go_loopg [5] cap (fun m ti wr2 => ∃ (k : Nat) (cur' : Array Value), m = cap - k ∧ k ≤ cap ∧ ti = .int .i64 k ∧ wr2.heap[g]? = some (.cells cur' 5 (0, 0)) ∧ cur'.size = cur.size ∧ (∀ j, j < k → cur'[j]? = some (.int .u8 (b : Int))) ∧ Out (fun x => x = g) wr wr2)
        case atStart => exact ⟨0, cur, by omega, by omega, rfl, hg, rfl, fun j h => absurd h (by omega), (Out.refl _ _).drewN nq⟩
        case round =>
          obtain ⟨k, cur', hm2, hk, rfl, hg2, hs2, hf2, hout2⟩ := hrel
          by_cases hkc : k < cap
          · have hkc1 : (k : Int) < (cap : Int) := by omega
            have hmeas := Lib.hid (show cap - (k + 1) < gk by omega)
            have hkle := Lib.hid (show k + 1 ≤ cap from hkc)
            have hksz := Lib.hid (show k < cur'.size by omega)
            have hce := cell_of hg2 k
            have hfz := frozen_of hg2 k
            have hce2 : wr.cell? ⟨g, k, none⟩ = some cur'[k] := by rw [hce]; exact Array.getElem?_eq_getElem (by omega)
            have hw : wrap64 ((k : Int) + 1) = ((k + 1 : Nat) : Int) := by have := HM.out; unfold maxLen at this; unfold wrap64; omega
            clear hce
            go_wp2_with fail
            go_roundg (cap - (k + 1))
            case measure => exact hmeas.out
            case rel =>
              refine ⟨k + 1, cur'.setIfInBounds k (.int .u8 (b : Int)), rfl, hkle.out, by rw [hw], ?_, by simpa using hs2, fun j hj => ?_, hout2.setCell ⟨g, k, none⟩ _ rfl⟩
              · exact heap_setCell_same _ _ _ _ _ _ hg2
              · by_cases hjk : j = k
                · subst hjk
                  rw [Array.getElem?_setIfInBounds, if_pos rfl, if_pos hksz.out]
                · rw [Array.getElem?_setIfInBounds, if_neg (fun e => hjk e.symm)]
                  exact hf2 j (Nat.lt_of_le_of_ne (Nat.le_of_lt_succ hj) hjk)
          · obtain rfl : k = cap := by omega
            go_wp2_with fail
            go_roundg (vs.length - (i + 1))
            case measure => omega
            case rel =>
              have hgS : OwnB vs g := ⟨vs[i], List.getElem_mem _, by rw [← HVI.out]; rfl⟩
              refine ⟨i + 1, rfl, by omega, by go_num, hout.trans (hout2.mono fun x hx => by rw [hx]; exact hgS), fun j hj => ?_⟩
              by_cases hji : j = i
              · subst hji
                rw [← HVI.out]
                refine .inr ⟨g, n, k, cur', rfl, hg2, h1, HM.out, by omega, fun _ x hx => ?_⟩
                rw [← HB.out]
                exact hf2 x hx
              · refine (HRS.out j hj).step (fun x hx => hout2.block x fun e => ?_) (fun h => by omega)
                subst e
                exact ha i j hin hj (fun e => hji e.symm) x (by rw [← HVI.out]; rfl) hx
    · obtain rfl : i = vs.length := by omega
      have HRS := Lib.hid hrs
      clear hrs hin hi hm
      go_wp2_with fail
      go_loopg [6, 7, 8] vs.length (fun m ti l k wr2 => ∃ i : Nat, m = vs.length - i ∧ i ≤ vs.length ∧ ti = .int .i64 i ∧ Out (fun _ => False) wr wr2)
      case atStart => exact ⟨0, by omega, by omega, rfl, Out.refl _ _⟩
      case round =>
        obtain ⟨i, hm, hi, rfl, hout2⟩ := hrel
        by_cases hin : i < vs.length
        · have hin1 : (i : Int) < (vs.length : Int) := by omega
          have hcell : wr.cell? ⟨R, o + i, none⟩ = some vs[i] := by rw [cell_block ((hout2.block R (fun h => h)).trans (hout.block R hRS))]; exact hc i hin
          have hrm := (HRS.out i hin).step (w' := wr) (m' := True) (fun k _ => hout2.block k (fun h => h)) (fun _ => hin)
          obtain ⟨vi, hvi⟩ : ∃ v, v = vs[i] := ⟨_, rfl⟩
          rw [← hvi] at hcell hrm
          have hcd : ∀ m, (wr.drewN m).cell? ⟨R, o + i, none⟩ = some vi := fun m => hcell
          clear hvi hcell
          rcases hrm with rfl | ⟨g, n, cap, cur, rfl, hg, h1, h2, h3, h4⟩
          · go_wp2_with fail
            go_quiet (fail)
            clear hcd
            go_wp2_with fail
            refine wp_loop_rounds 1 ?_
            rw [rounds_succ]
            go_wp2_with fail
            go_roundg (vs.length - (i + 1))
            case measure => omega
            case rel => exact ⟨i + 1, rfl, by omega, by go_num, hout2.drewN nq⟩
          · go_wp2_with fail
            go_quiet (fail)
            clear hcd
            go_wp2_with fail
            obtain ⟨b, hb⟩ : ∃ b : Nat, b = (i + 1) % 256 := ⟨_, rfl⟩
            have hb2 : ((i : Int) + 1) % 256 = (b : Int) := by omega
            rw [← hb] at h4
            have HM := Lib.hid h2
            clear hb h2
            go_loopg [8] cap (fun m ti wr2 => ∃ (k : Nat), m = cap - k ∧ k ≤ cap ∧ ti = .int .i64 k ∧ Out (fun _ => False) wr wr2)
            case atStart => exact ⟨0, by omega, by omega, rfl, (Out.refl _ _).drewN nq⟩
            case round =>
              obtain ⟨k, hm2, hk, rfl, hout3⟩ := hrel
              by_cases hkc : k < cap
              · have hkc1 : (k : Int) < (cap : Int) := by omega
                have hmeas := Lib.hid (show cap - (k + 1) < gk by omega)
                have hkle := Lib.hid (show k + 1 ≤ cap from hkc)
                have hce : wr.cell? ⟨g, k, none⟩ = some (.int .u8 (b : Int)) := by
                  rw [cell_block (hout3.block g (fun h => h)), cell_of hg k]
                  exact h4 trivial k hkc
                have hw : wrap64 ((k : Int) + 1) = ((k + 1 : Nat) : Int) := by have := HM.out; unfold maxLen at this; unfold wrap64; omega
                have hbb : ((b : Int) == (b : Int)) = true := by simp
                go_wp2_with fail
                go_roundg (cap - (k + 1))
                case measure => exact hmeas.out
                case rel => exact ⟨k + 1, rfl, hkle.out, by rw [hw], hout3⟩
              · obtain rfl : k = cap := by omega
                go_wp2_with fail
                go_roundg (vs.length - (i + 1))
                case measure => omega
                case rel => exact ⟨i + 1, rfl, by omega, by go_num, hout2.trans hout3⟩
        · obtain rfl : i = vs.length := by omega
          go_wp2_with fail
          go_ret
          exact ⟨rfl, hout.trans (hout2.mono fun _ h => h.elim), fun j hj => (HRS.out j hj).step (fun k _ => hout2.block k (fun h => h)) (fun h => h)⟩
end Go.Proofs.YtkjpfjgaabbggaaDoor
