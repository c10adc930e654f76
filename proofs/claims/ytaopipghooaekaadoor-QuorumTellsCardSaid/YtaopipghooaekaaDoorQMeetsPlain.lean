/- Majorities of two configurations that meet share a node; one change's configurations meet: plain laws. -/
import Derived.Test.YtaopipghooaekaaDoorQSmall
set_option linter.unusedVariables false
set_option linter.unusedSimpArgs false
namespace Go.Proofs.YtaopipghooaekaaDoor
open Go.RowKit

/-- all that rises behind 5 - k, up to 5 -/
def subsF : Nat → List (List Int)
  | 0 => [[]]
  | k + 1 => subsF k ++ (subsF k).map ((5 - (k : Int)) :: ·)
theorem rises_mono : ∀ (ns : List Int) (last last' : Int), last' ≤ last → rises last ns = true → rises last' ns = true
  | [], _, _, _, _ => rfl
  | n :: ns, last, last', h, hr => by
    simp only [rises, Bool.and_eq_true, decide_eq_true_eq] at hr ⊢
    exact ⟨⟨hr.1.1, by omega⟩, hr.2⟩
theorem rises_subs : ∀ (k : Nat) (ns : List Int), rises (5 - (k : Int)) ns = true → ns ∈ subsF k
  | 0, [], _ => by simp [subsF]
  | 0, n :: ns, h => by
    simp only [rises, Bool.and_eq_true, decide_eq_true_eq, nodeB] at h
    omega
  | k + 1, [], h => by
    simp only [subsF, List.mem_append]
    exact .inl (rises_subs k [] rfl)
  | k + 1, n :: ns, h => by
    simp only [subsF, List.mem_append, List.mem_map]
    have h' := h
    simp only [rises, Bool.and_eq_true, decide_eq_true_eq, nodeB] at h
    by_cases hn : n = 5 - (k : Int)
    · exact .inr ⟨ns, rises_subs k ns (by rw [← hn]; exact h.2), by rw [hn]⟩
    · refine .inl (rises_subs k (n :: ns) ?_)
      simp only [rises, Bool.and_eq_true, decide_eq_true_eq, nodeB]
      exact ⟨⟨h.1.1, by omega⟩, h.2⟩
theorem right_subs {ns : List Int} (h : rightB ns = true) : ns ∈ subsF 5 := by
  simp only [rightB, Bool.and_eq_true] at h
  exact rises_subs 5 ns h.2
theorem rises_nodup : ∀ (ns : List Int) (last : Int), rises last ns = true → ns.Nodup
  | [], _, _ => List.nodup_nil
  | n :: ns, last, h => by
    simp only [rises, Bool.and_eq_true] at h
    refine List.nodup_cons.2 ⟨fun hm => ?_, rises_nodup ns n h.2⟩
    have := (rises_sorted ns n h.2).2 n hm
    omega
theorem right_nodup {ns : List Int} (h : rightB ns = true) : ns.Nodup := by
  simp only [rightB, Bool.and_eq_true] at h
  exact rises_nodup ns 0 h.2

theorem count_apart (p q r : Int → Bool) : ∀ (ns : List Int), (∀ x ∈ ns, p x = true → q x = true → False) → (∀ x, p x = true → r x = true) → (∀ x, q x = true → r x = true) →
    (ns.filter p).length + (ns.filter q).length ≤ (ns.filter r).length
  | [], _, _, _ => by simp
  | n :: ns, h, hp, hq => by
    have ih := count_apart p q r ns (fun x hx => h x (List.mem_cons_of_mem _ hx)) hp hq
    have h1 := h n (List.mem_cons_self ..)
    have h2 := hp n
    have h3 := hq n
    simp only [List.filter_cons]
    cases hpn : p n <;> cases hqn : q n <;> cases hrn : r n <;> simp_all <;> omega
theorem count_split (p r : Int → Bool) : ∀ (ns : List Int), (ns.filter p).length ≤ (ns.filter fun x => p x && r x).length + (ns.length - (ns.filter r).length)
  | [] => by simp
  | n :: ns => by
    have ih := count_split p r ns
    have hl := List.length_filter_le r ns
    simp only [List.filter_cons]
    cases hpn : p n <;> cases hrn : r n <;> simp_all <;> omega
theorem both_same (p : Int → Bool) {ns ms : List Int} (h1 : ns.Nodup) (h2 : ms.Nodup) : (ns.filter fun x => p x && ms.contains x).length = (ms.filter fun x => p x && ns.contains x).length := by
  refine List.Perm.length_eq ((List.perm_ext_iff_of_nodup (h1.filter _) (h2.filter _)).2 fun x => ?_)
  simp only [List.mem_filter, Bool.and_eq_true, List.contains_iff_mem]
  constructor <;> rintro ⟨a, b, c⟩ <;> exact ⟨c, b, a⟩
/-- two majorities of configurations that meet share a node -/
theorem meet_share {ns ms some others : List Int} (hm : meetB ns ms = true) (h1 : wonB ns some = true) (h2 : wonB ms others = true) : ∃ x, x ∈ some ∧ x ∈ others := by
  simp only [meetB, Bool.and_eq_true] at hm
  obtain ⟨⟨hr1, hr2⟩, hmm⟩ := hm
  have n1 := right_nodup hr1
  have n2 := right_nodup hr2
  rw [wonB_ok hr1] at h1
  rw [wonB_ok hr2] at h2
  simp only [mostB, decide_eq_true_eq, meetN] at h1 h2 hmm
  refine Classical.byContradiction fun hno => ?_
  have hap : ∀ x, some.contains x = true → others.contains x = true → False := fun x a b => hno ⟨x, by simpa using a, by simpa using b⟩
  have s1 := count_split (fun x => some.contains x) (fun x => ms.contains x) ns
  have s2 := count_split (fun x => others.contains x) (fun x => ns.contains x) ms
  have e2 := both_same (fun x => others.contains x) n2 n1
  have e3 := both_same (fun _ => true) n2 n1
  simp only [Bool.true_and] at e3
  have s3 := count_apart (fun x => some.contains x && ms.contains x) (fun x => others.contains x && ms.contains x) (fun x => ms.contains x) ns
    (fun x _ a b => by simp only [Bool.and_eq_true] at a b; exact hap x a.1 b.1) (fun x a => by simp only [Bool.and_eq_true] at a; exact a.2) (fun x a => by simp only [Bool.and_eq_true] at a; exact a.2)
  have l1 := List.length_filter_le (fun x => ms.contains x) ns
  have l2 := List.length_filter_le (fun x => ns.contains x) ms
  simp only [among] at h1 h2 hmm
  omega

theorem change_meets_all : ∀ ns ∈ subsF 5, ∀ kind ∈ ([1, 2] : List Int), ∀ who ∈ ([1, 2, 3, 4, 5] : List Int), rightB ns = true → (changeT ns kind who).1 = 0 →
    meetB ns (changeT ns kind who).2 = true ∧ meetB (changeT ns kind who).2 ns = true ∧ meetB ns ns = true := by decide +kernel
theorem change_ok {ns : List Int} {kind who : Int} (h : (changeT ns kind who).1 = 0) : rightB ns = true ∧ nodeB who = true ∧ kindB kind = true := by
  unfold changeT at h
  split at h
  · cases h
  · split at h
    · cases h
    · split at h
      · cases h
      · simp_all
theorem change_meets {ns : List Int} {kind who : Int} (h : (changeT ns kind who).1 = 0) :
    meetB ns (changeT ns kind who).2 = true ∧ meetB (changeT ns kind who).2 ns = true ∧ meetB ns ns = true := by
  obtain ⟨h1, h2, h3⟩ := change_ok h
  refine change_meets_all ns (right_subs h1) kind ?_ who ?_ h1 h
  · have := of_decide_eq_true h3
    simp
    omega
  · have := of_decide_eq_true h2
    simp
    omega
end Go.Proofs.YtaopipghooaekaaDoor
