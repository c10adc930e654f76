/- (*session.Table).List: the contract. -/
import Derived.Test.YtbdokphemdkhmaaDoorSSort
import Derived.Deep.LoopGhost
import Derived.Deep.AppendLies
import Derived.Sort.OwnSorted
set_option linter.unusedVariables false
set_option linter.unusedSimpArgs false
namespace Go.Proofs.YtbdokphemdkhmaaDoor
open Go.RowKit

theorem info_ses : (Tryd.prog.info? 44).map (fun i => (i.zero, i.size, i.bytes)) = some (some zV, 4, 48) := by kernel_rfl
/-- 'append' of one session -/
theorem wpList_append_ses {ops : Array Oper} {rest : List Oper} {o : Oper} {a : Act} {Q : Exit → Act → World → Prop} (w : World) (hgd : o.guard = none) (s x : Operand)
    (ho : o.op = .call { callee := .builtin .append, args := #[s, x], argTypes := #[38, 38] })
    (base : Nat) (v : Value) (n : Nat) (xs : List Value) (hs : a.eval s = v) (hown : w.ownsRow base 44 4 v n xs) (p q r : Int) (D : Value) (hD : D.oneCell' = true) (hx : a.eval x = .slice (some ⟨w.heap.size, 0, none⟩) 1 1)
    (hn : n ≤ 1000000000000) (hbase : base ≤ w.heap.size)
    (h : ∀ v' w', w'.ownsRow base 44 4 v' (n + 1) (xs ++ [.int .i64 p, .int .i64 q, .int .i64 r, D]) → (w.alloc (.cells #[.int .i64 p, .int .i64 q, .int .i64 r, D] 44)).grownBy w' v.ownBlock → wpList Tryd.prog ops Q rest (a.put o.dst v') w') :
    wpList Tryd.prog ops Q (o :: rest) a (w.alloc (.cells #[.int .i64 p, .int .i64 q, .int .i64 r, D] 44)) := by
  obtain ⟨i0, hi, hz0, hz1, hz2⟩ := info_parts info_ses
  exact wpList_append_own _ hgd s x 38 ho base 44 i0 _ 4 48 Tryd.underlying38 hi hz0 hz1 hz2 rfl (by decide) v n xs hs (hown.alloc _) ⟨w.heap.size, 0, none⟩ 1 1 [.int .i64 p, .int .i64 q, .int .i64 r, D] hx rfl
    (World.news_of_block (cs := #[.int .i64 p, .int .i64 q, .int .i64 r, D]) (t := 44) (fr := (0, 0)) (heap_alloc_new w _)) (by simp [Value.oneCell'] at hD ⊢; exact hD) (by unfold maxLen; omega) (by omega) (by simp; omega) fun v' w' h1 h2 _ => h v' w' h1 h2

def core (s : SV) : Int × Int × Int × List UInt8 := (s.i, s.l, s.u, s.r)
def risS (ss : List SV) : Prop := ss.Pairwise fun a b => a.i < b.i
theorem risS_of {ss : List SV} (h : risI (sI ss)) : risS ss := by
  unfold risI sI at h
  rw [List.pairwise_map] at h
  exact h
theorem filter_same {f g : SV → Bool} {l : List SV} (h : ∀ x ∈ l, f x = g x) : l.filter f = l.filter g := List.filter_congr h
theorem filter_step (p : SV → Bool) (s0 : SV) (hp : p s0 = false) : ∀ {ss : List SV}, risS ss → s0 ∈ ss → (ss.filter fun y => p y || y.i == s0.i).Perm (ss.filter p ++ [s0])
  | [], _, h => by simp at h
  | y :: r, hs, h => by
    obtain ⟨h1, h2⟩ := List.pairwise_cons.1 hs
    by_cases hy : y = s0
    · subst hy
      have e : (r.filter fun z => p z || z.i == y.i) = r.filter p := List.filter_congr fun z hz => by
        have := h1 z hz
        have : (z.i == y.i) = false := by simp; omega
        simp [this]
      rw [List.filter_cons, List.filter_cons]
      simp only [hp, beq_self_eq_true, Bool.or_true, ↓reduceIte, Bool.false_eq_true]
      rw [e]
      exact (List.perm_append_singleton y _).symm
    · have hr : s0 ∈ r := by
        rcases List.mem_cons.1 h with e | e
        · exact absurd e.symm hy
        · exact e
      have hlt := h1 s0 hr
      have hb : (y.i == s0.i) = false := by simp; omega
      have ih := filter_step p s0 hp h2 hr
      rw [List.filter_cons, List.filter_cons]
      simp only [hb, Bool.or_false]
      cases p y
      · exact ih
      · exact ih.cons y

/-- the loop of List, under way -/
structure LI (w wr : World) (b r : Nat) (ss ds : List SV) (v : Value) (n : Nat) (left : Lit → Bool) (cnt : Nat) : Prop where
  rg : wr.ranges Tryd.prog 3 anyE b r (sI ss).length (kD (sI ss)) left cnt
  own : wr.ownsRow w.heap.size 44 4 v n (scells ds)
  ln : ds.length = n
  ods : ∀ s ∈ ds, OD wr w.heap.size s.D s.r
  apart : ds.Pairwise fun a c => ∀ k, a.D.ownBlock = some k → c.D.ownBlock ≠ some k
  perm : (ds.map core).Perm ((ss.filter fun s => !left (.int .i64 s.i)).map core)
  bel : Below w.heap.size w wr
theorem LI.len {w wr : World} {b r : Nat} {ss ds : List SV} {v : Value} {n : Nat} {left : Lit → Bool} {cnt : Nat} (h : LI w wr b r ss ds v n left cnt) : ds.length ≤ ss.length := by
  have := h.perm.length_eq
  simp at this
  rw [this]
  exact List.length_filter_le _ _

/-- what List hands back: the same sessions, in memory of their own -/
structure LO (w : World) (base : Nat) (v : Value) (ss ls : List SV) : Prop where
  own : w.ownsRow base 44 4 v ls.length (scells ls)
  ods : ∀ s ∈ ls, OD w base s.D s.r
  apart : ls.Pairwise fun a c => ∀ k, a.D.ownBlock = some k → c.D.ownBlock ≠ some k
  same : ls.map core = ss.map core
theorem core_sorted : ∀ {a c : List SV}, (a.map core).Perm (c.map core) → (a.Pairwise fun x y => x.i ≤ y.i) → risS c → a.map core = c.map core := by
  intro a c hp ha hc
  refine List.Perm.eq_of_pairwise (le := fun x y => x.1 ≤ y.1) ?_ ?_ ?_ hp
  · intro x y hx hy h1 h2
    rw [List.mem_map] at hx hy
    obtain ⟨s, hs, rfl⟩ := hx
    obtain ⟨t, ht, rfl⟩ := hy
    simp only [core] at h1 h2
    have hs' : core s ∈ c.map core := hp.mem_iff.1 (List.mem_map.2 ⟨s, hs, rfl⟩)
    obtain ⟨s', hs1, hs2⟩ := List.mem_map.1 hs'
    have e : s'.i = t.i := by have := congrArg Prod.fst hs2; simp only [core] at this; omega
    have hst : s' = t := by
      have hinj : ∀ {l : List SV}, risS l → s' ∈ l → t ∈ l → s' = t := by
        intro l hl
        induction l with
        | nil => intro h; simp at h
        | cons z l ih =>
          obtain ⟨h1, h2⟩ := List.pairwise_cons.1 hl
          intro a b
          rcases List.mem_cons.1 a with ea | a <;> rcases List.mem_cons.1 b with eb | b
          · rw [ea, eb]
          · have := h1 _ b; rw [← ea] at this; omega
          · have := h1 _ a; rw [← eb] at this; omega
          · exact ih h2 a b
      exact hinj hc hs1 ht
    rw [← hs2, hst]
  · rw [List.pairwise_map]; exact ha
  · rw [List.pairwise_map]; exact hc.imp fun h => by simp only [core]; omega

theorem has_mem {ss : List SV} (hr : risI (sI ss)) {s : SV} (hs : s ∈ ss) : Maps.has (kD (sI ss)) (.int .i64 s.i) = true := by
  rw [kD_has, look_of_mem (v := sV s) hr (List.mem_map.2 ⟨s, hs, rfl⟩)]
  rfl
theorem at_find {ss : List SV} {x : Int} {c : Value} (h : ∀ zd, (kD (sI ss)).atKey (.int .i64 x) zd = .held c) : ∃ s, findS x ss = some s ∧ c = sV s := by
  have h1 := Maps.has_true_of_atKey h
  rw [kD_has, look_sI] at h1
  cases hf : findS x ss with
  | none => rw [hf] at h1; simp at h1
  | some s =>
    refine ⟨s, rfl, ?_⟩
    have h2 := h (.held zV)
    rw [kD_at, look_sI, hf] at h2
    simp only [Option.map_some, Option.getD_some, DataW.held.injEq] at h2
    exact h2.symm

set_option maxRecDepth 100000 in
set_option maxHeartbeats 4000000 in
theorem list_any (base p b : Nat) (clock : Int) (ss : List SV) (w : World) (h : TB w base p b clock ss) (hn : ss.length ≤ 1000000) :
    Calls Tryd.prog 12 #[.pointer (some ⟨p, 0, none⟩)] w fun e w' => ∃ v ls, e = .returned v ∧ LO w' w.heap.size v ss ls ∧ Below w.heap.size w w' := by
  have c0 := h.cm
  have H := Lib.hid h
  have hown := h.2.2.2.1.2
  have HI := Lib.hid h.2.2.2.1.1
  clear h
  go_enter Tryd.func12, Tryd.ntmps12
  go_wp2_with (at_range; refine wpList_range_own _ rfl _ 60 rfl 3 44 lawI Tryd.underlying60 _ b _ _ rfl hown ?_; intro w0 hrg0 hg0 hs0)
  go_frame
  clear hown hs0
  go_loopg [3] (Maps.size (kD (sI ss))) (fun m v wr => ∃ (left : Lit → Bool) (ds : List SV) (A : Option Addr) (n c : Nat), v = .slice A n c ∧ LI w wr b w.heap.size ss ds (.slice A n c) n left m)
  case atStart =>
    refine ⟨_, [], none, 0, 0, rfl, ⟨hrg0, World.ownsRow_nil _ _ _ _, rfl, fun s hs => by simp at hs, List.Pairwise.nil, ?_, (Below.refl _ _).grown hg0 (Nat.le_refl _) (fun k hk => by cases hk)⟩⟩
    rw [List.filter_eq_nil_iff.2 fun s hs => by rw [has_mem HI.out hs]; decide]
  case round =>
    obtain ⟨left, ds, A, n, c, rfl, L⟩ := hrel
    have HL := Lib.hid L
    have hrg := L.rg
    clear L
    go_wp2_with (at_next; refine wpList_next_ranges _ rfl _ rfl 3 lawI anyE (Value.int .i64) id (fun key kl hk => by obtain ⟨x, rfl, _⟩ := Maps.keyOf_int_inv Tryd.underlying3 hk; exact ⟨x, rfl⟩) (fun v y hv => ⟨v, rfl⟩) b w.heap.size _ _ _ _ rfl hrg ?_ ?_)
    · intro h0 hl0
      clear hrg
      have hp0 : (ds.map core).Perm (ss.map core) := by
        have := HL.out.perm
        rwa [List.filter_eq_self.2 fun s _ => by rw [hl0]; rfl] at this
      have HP := Lib.hid hp0
      have HS := Lib.hid (sortId_any w.heap.size n (.slice A n c) ds wr HL.out.own HL.out.ln (by have := HL.out.len; have := HL.out.ln; omega))
      clear hl0 hp0
      go_wp2_with (go_at_call 26; refine HS.out.mono ?_; rintro e w1 ⟨rfl, ts, hts, hso, own1, hg1⟩)
      go_ret
      have hge : ∀ k, (Value.slice A n c).ownBlock = some k → w.heap.size ≤ k := fun k hk => (HL.out.own.lt k hk).1
      have hlen : ts.length = n := by rw [hts.length_eq, HL.out.ln]
      refine ⟨_, ts, rfl, ⟨by rw [hlen]; exact own1, fun s hs => ?_, ?_, core_sorted ((hts.map core).trans HP.out) hso (risS_of HI.out)⟩, HL.out.bel.grown hg1 HL.out.bel.size hge⟩
      · have o := HL.out.ods s (hts.mem_iff.1 hs)
        exact o.step fun k hk => hg1.block k (o.1.lt k hk).2 fun e => by
          exact row_types o.1 HL.out.own (by decide) k hk e.symm
      · exact (hts.pairwise_iff fun {a c} h k h1 h2 => h k h2 h1).2 HL.out.apart
    · intro x c1 kl yd yp w1 cnt1 hkey hlx hy hat hrg1 hlt hg1 hs1 hen
      obtain ⟨x', ex, rfl, wx⟩ := Maps.keyOf_int_inv Tryd.underlying3 hkey
      cases ex
      simp only [anyE, id, Option.some.injEq, Prod.mk.injEq] at hy
      obtain ⟨rfl, rfl⟩ := hy
      obtain ⟨s, hf, rfl⟩ := at_find hat
      simp only [sV, SV.D] at hen ⊢
      have hw0 : w.heap.size ≤ wr.heap.size := HL.out.bel.size
      have bel1 : Below w.heap.size w w1 := HL.out.bel.grown hg1 hw0 (fun k hk => by cases hk; exact Nat.le_refl _)
      have hRD := ((H.out.below bel1).rep hf).rd
      simp only [SV.D] at hRD
      have hsz1 := bel1.size
      obtain ⟨H1, hH1⟩ : ∃ H1, H1 = w1.heap.size := ⟨_, rfl⟩
      have bA := below_alloc w1 (.cells #[.int .i64 s.i, .int .i64 s.l, .int .i64 s.u, .slice s.A s.r.length s.c] 44)
      have hbx := heap_alloc_new w1 (.cells #[.int .i64 s.i, .int .i64 s.l, .int .i64 s.u, .slice s.A s.r.length s.c] 44)
      have HC := Lib.hid (cloneb_any _ _ _ (hRD.below bA))
      have own1 := HL.out.own.kept hg1 (.inr fun e => row_ne_iter HL.out.own hrg e.symm)
      have HHAT := Lib.hid hat
      have HW := Lib.hid wx
      have HHS := Lib.hid hs1
      have HLT := Lib.hid hlt
      have HLX := Lib.hid hlx
      have HH1 := Lib.hid hH1
      have HBX := Lib.hid hbx
      have HSZ := Lib.hid hsz1
      clear hat hs1 hlt wx hkey hRD hlx hH1 hbx hsz1
      have hlt1 : w1.heap.size < (w1.alloc (.cells #[.int .i64 s.i, .int .i64 s.l, .int .i64 s.u, .slice s.A s.r.length s.c] 44)).heap.size := by simp
      have HLT1 := Lib.hid hlt1
      have HLN := Lib.hid (show n ≤ 1000000 by have := HL.out.len; have := HL.out.ln; omega)
      clear hlt1
      go_wp2_with (first
        | (go_at_call 25; refine HC.out.mono ?_; rintro e w2 ⟨D2, rfl, od, b2⟩; obtain ⟨B2, c2, hD2⟩ := od.one; subst hD2;
            (have hb2 := (b2.block _ HLT1.out).trans HBX.out); (have k3 : w2.cell? ⟨w1.heap.size, 3, none⟩ = some (.slice s.A s.r.length s.c) := cell_of hb2 3); (have f3 := frozen_of hb2 3);
            (have q0 : (w2.setCell ⟨w1.heap.size, 3, none⟩ (.slice B2 s.r.length c2)).cell? ⟨w1.heap.size, 0, none⟩ = some (.int .i64 s.i) := (World.cell?_setCell_other _ _ _ _ (by simp)).trans (cell_of hb2 0));
            (have q1 : (w2.setCell ⟨w1.heap.size, 3, none⟩ (.slice B2 s.r.length c2)).cell? ⟨w1.heap.size, 1, none⟩ = some (.int .i64 s.l) := (World.cell?_setCell_other _ _ _ _ (by simp)).trans (cell_of hb2 1));
            (have q2 : (w2.setCell ⟨w1.heap.size, 3, none⟩ (.slice B2 s.r.length c2)).cell? ⟨w1.heap.size, 2, none⟩ = some (.int .i64 s.u) := (World.cell?_setCell_other _ _ _ _ (by simp)).trans (cell_of hb2 2));
            (have q3 : (w2.setCell ⟨w1.heap.size, 3, none⟩ (.slice B2 s.r.length c2)).cell? ⟨w1.heap.size, 3, none⟩ = some (.slice B2 s.r.length c2) := World.cell?_setCell_same _ _ _ k3);
            (have bb := below_then bA bA.size b2); (have own2 := own_step own1 (w' := w2.setCell ⟨w1.heap.size, 3, none⟩ (.slice B2 s.r.length c2)) (fun k hk => by
              have hk1 := (own1.lt k hk).2
              rw [heap_setCell_other _ _ _ _ (by simp only; omega)]
              exact bb.block k hk1)); (have z3 : (w2.setCell ⟨w1.heap.size, 3, none⟩ (.slice B2 s.r.length c2)).heap.size = w2.heap.size := World.size_setCell _ _ _); have hz3 := Lib.hid (show w.heap.size ≤ (w2.setCell ⟨w1.heap.size, 3, none⟩ (.slice B2 s.r.length c2)).heap.size by rw [z3]; have := bb.size; have := bel1.size; omega); clear z3)
        | (at_builtin; refine wpList_append_ses (w2.setCell ⟨w1.heap.size, 3, none⟩ (.slice B2 s.r.length c2)) rfl (.tmp 19) (.tmp 21) rfl w.heap.size (.slice A n c) n (scells ds) rfl own2 s.i s.l s.u (.slice B2 s.r.length c2) rfl (by rw [World.size_setCell]; rfl) (by have := HLN.out; omega) hz3.out ?_; intro v4 w4 own4 hg4; obtain ⟨A4, c4, hv4, -⟩ := own_shape own4; subst hv4))
      have HOD := Lib.hid od
      have HB4 := Lib.hid ((below_alloc (w2.setCell ⟨w1.heap.size, 3, none⟩ (.slice B2 s.r.length c2)) (.cells #[.int .i64 s.i, .int .i64 s.l, .int .i64 s.u, .slice B2 s.r.length c2] 44)))
      clear k3 f3 q0 q1 q2 q3 hb2 od
      go_roundg cnt1
      case measure => exact HLT.out
      case rel =>
        have hz : w1.heap.size ≤ w2.heap.size := bb.size
        have hsA : ((w1.alloc (.cells #[.int .i64 s.i, .int .i64 s.l, .int .i64 s.u, .slice s.A s.r.length s.c] 44))).heap.size = w1.heap.size + 1 := by simp
        have hz2 : w1.heap.size + 1 ≤ w2.heap.size := by have := b2.size; omega
        have hzs : (w2.setCell ⟨w1.heap.size, 3, none⟩ (.slice B2 s.r.length c2)).heap.size = w2.heap.size := World.size_setCell _ _ _
        -- what is kept from w1 to w4 but for v's block
        have hk4 : ∀ k, k < w1.heap.size → (Value.slice A n c).ownBlock ≠ some k → w4.heap[k]? = w1.heap[k]? := fun k hk hne => by
          rw [hg4.block k (by simp [hzs]; omega) (fun e => hne e.symm), HB4.out.block k (by rw [hzs]; omega), heap_setCell_other _ _ _ _ (by simp only; omega)]
          exact bb.block k hk
        have hgr : w1.grownBy w4 (Value.slice A n c).ownBlock := ⟨hg4.os.trans (HB4.out.os.trans bb.os), hg4.tape.trans (HB4.out.tape.trans bb.tape), hg4.output.trans (HB4.out.output.trans bb.output), by have := hg4.size; have := HB4.out.size; omega, fun k hk hne => hk4 k hk fun e => hne e.symm⟩
        have hbl := (H.out.below bel1).2.2.2.1.lt
        have hbw := H.out.2.2.2.1.lt
        have hge : ∀ k, (Value.slice A n c).ownBlock = some k → w.heap.size ≤ k := fun k hk => (own1.lt k hk).1
        refine ⟨_, ds ++ [⟨s.i, s.l, s.u, B2, c2, s.r⟩], A4, n + 1, c4, rfl, ⟨hrg1.kept hgr (fun e => by have := hge b e.symm; omega) (fun e => row_ne_iter own1 hrg1 e), ?_, by simp [HL.out.ln], ?_, ?_, ?_, bel1.grown hgr bel1.size hge⟩⟩
        · rw [scells_append]; exact own4
        · intro t ht
          rcases List.mem_append.1 ht with ht | ht
          · have o := HL.out.ods t ht
            have o1 : OD w1 w.heap.size t.D t.r := o.step fun k hk => hg1.block k (o.1.lt k hk).2 fun e => row_ne_iter o.1 hrg (e.symm.trans hk.symm)
            exact o1.step fun k hk => hk4 k (o1.1.lt k hk).2 fun e => row_types o1.1 own1 (by decide) k hk e
          · obtain rfl := List.mem_singleton.1 ht
            refine (HOD.out.step fun k hk => ?_).lower (by rw [hsA]; have := bel1.size; omega)
            have hk1 := HOD.out.1.lt k hk
            rw [hg4.block k (by simp [hzs]; omega) (fun e => by have := (own1.lt k e.symm).2; omega), HB4.out.block k (by rw [hzs]; omega), heap_setCell_other _ _ _ _ (by simp only; omega)]
        · refine List.pairwise_append.2 ⟨HL.out.apart, by simp, fun a ha c hc k h1 h2 => ?_⟩
          obtain rfl := List.mem_singleton.1 hc
          have o := HL.out.ods a ha
          have hk1 := (o.1.lt k h1).2
          have hk2 := (HOD.out.1.lt k h2).1
          have := hg1.size
          omega
        · have hst := filter_step (fun y => !left (.int .i64 y.i)) s (by have e := (findS_mem hf).2; rw [e, HLX.out]; rfl) (risS_of HI.out) (findS_mem hf).1
          have e2 : (fun z : SV => !(left (.int .i64 z.i) && !(Lit.int .i64 z.i).sameKey (.int .i64 x))) = fun y => !left (.int .i64 y.i) || y.i == s.i := by
            funext z
            rw [same_int, (findS_mem hf).2]
            cases left (.int .i64 z.i) <;> simp
          rw [e2]
          have h3 := hst.map core
          rw [List.map_append] at h3
          rw [List.map_append]
          exact (List.Perm.append_right _ HL.out.perm).trans h3.symm
end Go.Proofs.YtbdokphemdkhmaaDoor
