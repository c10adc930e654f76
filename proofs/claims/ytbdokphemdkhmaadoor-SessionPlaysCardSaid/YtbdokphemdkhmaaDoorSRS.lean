/- A row of sessions that is read; muntinref16.Same on two rows of the same content: true. -/
import Derived.Test.YtbdokphemdkhmaaDoorSDo
import Derived.Deep.LoopGhost
set_option linter.unusedVariables false
set_option linter.unusedSimpArgs false
namespace Go.Proofs.YtbdokphemdkhmaaDoor
open Go.RowKit

def RS (w : World) (A : Option Addr) (ls : List SV) : Prop := ∀ k (h : k < ls.length), ∃ a, A = some a ∧ w.cell? (a.add (k * 4)) = some (.int .i64 ls[k].i) ∧ w.cell? (a.add (k * 4 + 1)) = some (.int .i64 ls[k].l) ∧ w.cell? (a.add (k * 4 + 2)) = some (.int .i64 ls[k].u) ∧
  w.cell? (a.add (k * 4 + 3)) = some ls[k].D ∧ RD w ls[k].D ls[k].r
theorem RA.rs {w : World} {A : Option Addr} {ls : List SV} (h : RA w A ls) : RS w A ls := fun k hk => by
  obtain ⟨a, e, c0, c1, c2, c3, c4, r⟩ := h k hk
  exact ⟨a, e, c0, c1, c2, c3, c4⟩
theorem RS.below {w w' : World} {A : Option Addr} {av : List SV} (h : RS w A av) (b : Below w.heap.size w w') : RS w' A av := fun k hk => by
  obtain ⟨a, e, c0, c1, c2, c3, c4⟩ := h k hk
  exact ⟨a, e, below_cell b c0, below_cell b c1, below_cell b c2, below_cell b c3, c4.below b⟩
theorem RS.addr {w : World} {A : Option Addr} {av : List SV} (h : RS w A av) (h0 : 0 < av.length) : ∃ g o, A = some ⟨g, o, none⟩ ∧ g < w.heap.size ∧ ∀ k (hk : k < av.length), w.cell? ⟨g, o + k * 4, none⟩ = some (.int .i64 av[k].i) ∧ w.cell? ⟨g, o + k * 4 + 1, none⟩ = some (.int .i64 av[k].l) ∧ w.cell? ⟨g, o + k * 4 + 2, none⟩ = some (.int .i64 av[k].u) ∧
    w.cell? ⟨g, o + k * 4 + 3, none⟩ = some av[k].D ∧ RD w av[k].D av[k].r := by
  obtain ⟨⟨g, o, s⟩, rfl, hc, _⟩ := h 0 h0
  have hs : s = none := by
    cases s with
    | none => rfl
    | some x => simp [World.cell?, Addr.add] at hc; split at hc <;> simp_all
  subst hs
  refine ⟨g, o, rfl, ?_, fun k hk => ?_⟩
  · have := World.block_lt_of_cell? _ _ hc
    simpa [Addr.add] using this
  · obtain ⟨a, e, c0, c1, c2, c3, r⟩ := h k hk
    cases e
    rw [Addr.add_lit] at c0 c1 c2 c3
    exact ⟨c0, by rw [Nat.add_assoc]; exact c1, by rw [Nat.add_assoc]; exact c2, by rw [Nat.add_assoc]; exact c3, r⟩
theorem row_rs {w : World} {base m c : Nat} {A : Option Addr} {ls : List SV} (h : w.ownsRow base 44 4 (.slice A m c) m (scells ls)) (hm : ls.length = m) (hd : ∀ s ∈ ls, RD w s.D s.r) : RS w A ls := by
  intro k hk
  obtain ⟨g', cap, cur, hv, hg, hb, h1, h2, h3, h4⟩ := row_at h hm (by omega)
  cases hv
  obtain ⟨g0, g1, g2, g3⟩ := scells_get ls k hk
  have hx : ∀ j v, j < m * 4 → (scells ls)[j]? = some v → w.cell? ((⟨g', 0, none⟩ : Addr).add j) = some v := fun j v hj hv => by
    rw [← h4, List.getElem?_take_of_lt hj, Array.getElem?_toList] at hv
    rw [Addr.add_lit, Nat.zero_add, cell_of hb]; exact hv
  exact ⟨_, rfl, hx _ _ (by omega) g0, hx _ _ (by omega) g1, hx _ _ (by omega) g2, hx _ _ (by omega) g3, hd _ (List.getElem_mem _)⟩
theorem LO.rs {w : World} {base m c : Nat} {A : Option Addr} {ss ls : List SV} (h : LO w base (.slice A m c) ss ls) (hm : ls.length = m) : RS w A ls :=
  row_rs (by have := h.own; rwa [hm] at this) hm fun s hs => (h.ods s hs).rd

set_option maxRecDepth 100000 in
set_option maxHeartbeats 4000000 in
theorem same_any (A B : Option Addr) (n m ca cb : Nat) (as' bs : List SV) (w : World) (ha : RS w A as') (hb : RS w B bs) (hl : as'.length = n) (hl2 : bs.length = m) (hc : as'.map core = bs.map core) (hn : n ≤ 10000000000000) :
    Calls Tryd.prog 16 #[.slice A n ca, .slice B m cb] w fun e w' => e = .returned (.bool true) ∧ ∃ q, w' = w.drewN q := by
  obtain rfl : n = m := by rw [← hl, ← hl2]; simpa using congrArg List.length hc
  have HA := Lib.hid ha
  have HB := Lib.hid hb
  have HL := Lib.hid hl
  have HL2 := Lib.hid hl2
  have HC := Lib.hid hc
  clear ha hb hl hl2 hc
  go_enter Tryd.func16, Tryd.ntmps16
  go_wp2_with fail
  go_loopg [5] n (fun m ki wr => ∃ k : Nat, m = n - k ∧ k ≤ n ∧ ki = .int .i64 k ∧ ∃ q, wr = w.drewN q)
  case atStart => exact ⟨0, by omega, by omega, rfl, 0, rfl⟩
  case round =>
    obtain ⟨k, hm, hk, rfl, q, rfl⟩ := hrel
    by_cases hkl : k < n
    · have hkl1 : (k : Int) < (n : Int) := by omega
      have hka : k < as'.length := by rw [HL.out]; exact hkl
      have hkb : k < bs.length := by rw [HL2.out]; exact hkl
      obtain ⟨g, o, rfl, hg, hca⟩ := HA.out.addr (by omega)
      obtain ⟨g', o', rfl, hg', hcb⟩ := HB.out.addr (by omega)
      obtain ⟨a0, a1, a2, a3, hra⟩ := hca k hka
      obtain ⟨b0, b1, b2, b3, hrb⟩ := hcb k hkb
      have hcore : core (as'[k]) = core (bs[k]) := by
        have := congrArg (fun l => l[k]?) HC.out
        simpa [hka, hkb] using this
      obtain ⟨x, hx⟩ : ∃ x, x = as'[k] := ⟨_, rfl⟩
      obtain ⟨y, hy⟩ : ∃ y, y = bs[k] := ⟨_, rfl⟩
      rw [← hx] at a0 a1 a2 a3 hra hcore
      rw [← hy] at b0 b1 b2 b3 hrb hcore
      obtain ⟨xi, xl, xu, xA, xc, xr⟩ := x
      obtain ⟨yi, yl, yu, yA, yc, yr⟩ := y
      simp only [core, Prod.mk.injEq] at hcore
      obtain ⟨rfl, rfl, rfl, rfl⟩ := hcore
      simp only [SV.D] at a0 a1 a2 a3 b0 b1 b2 b3 hra hrb
      have f0 : ∀ m, (w.drewN m).cell? ⟨g, o + k * 4, none⟩ = some (.int .i64 xi) := fun m => a0
      have f1 : ∀ m, (w.drewN m).cell? ⟨g, o + k * 4 + 1, none⟩ = some (.int .i64 xl) := fun m => a1
      have f2 : ∀ m, (w.drewN m).cell? ⟨g, o + k * 4 + 2, none⟩ = some (.int .i64 xu) := fun m => a2
      have f3 : ∀ m, (w.drewN m).cell? ⟨g, o + k * 4 + 3, none⟩ = some (.slice xA xr.length xc) := fun m => a3
      have g0 : ∀ m, (w.drewN m).cell? ⟨g', o' + k * 4, none⟩ = some (.int .i64 xi) := fun m => b0
      have g1 : ∀ m, (w.drewN m).cell? ⟨g', o' + k * 4 + 1, none⟩ = some (.int .i64 xl) := fun m => b1
      have g2 : ∀ m, (w.drewN m).cell? ⟨g', o' + k * 4 + 2, none⟩ = some (.int .i64 xu) := fun m => b2
      have g3 : ∀ m, (w.drewN m).cell? ⟨g', o' + k * 4 + 3, none⟩ = some (.slice yA xr.length yc) := fun m => b3
      obtain ⟨_, _, e1', e2', -⟩ := hra
      obtain ⟨_, _, e3', e4', -⟩ := hrb
      cases e1'
      cases e3'
      have e1 := fun m => run_str (w.drewN m) xA xr xc (e2'.drewN m) 9 Tryd.underlying9
      have e2 := fun m => run_str (w.drewN m) yA xr yc (e4'.drewN m) 9 Tryd.underlying9
      have t0 : (xi != xi) = false := by simp
      have t1 : (xl != xl) = false := by simp
      have t2 : (xu != xu) = false := by simp
      have t3 : (xr != xr) = false := by simp
      clear a0 a1 a2 a3 b0 b1 b2 b3 e2' e4' hca hcb hx hy
      go_wp2_with fail
      go_quiet (fail)
      clear f0 f1 f2 f3 g0 g1 g2 g3 e1 e2
      go_wp2_with fail
      go_roundg (n - (k + 1))
      case measure => omega
      case rel => exact ⟨k + 1, rfl, by omega, by go_num, _, rfl⟩
    · obtain rfl : k = n := by omega
      go_wp2_with fail
      go_ret
      exact ⟨rfl, _, rfl⟩
end Go.Proofs.YtbdokphemdkhmaaDoor
