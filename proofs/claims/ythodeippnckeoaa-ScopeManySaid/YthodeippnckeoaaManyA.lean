/- What is proved: the texts that ScopeMany makes are declared, as far as may be. -/
import Derived.Test.YthodeippnckeoaaManyL
namespace Go.Vm.Scope
open Go Go.Proofs Go.Vm.Parse
set_option maxRecDepth 100000
set_option linter.unusedSimpArgs false
set_option linter.unusedVariables false
theorem gcat_add {α : Type} (f : Nat → List α) : ∀ (j k i : Nat), gcat f i (j + k) = gcat f i j ++ gcat f (i + j) k
  | 0, k, i => by simp [gcat]
  | j + 1, k, i => by
    have ih := gcat_add f j k (i + 1)
    rw [show j + 1 + k = j + k + 1 by omega]
    simp only [gcat, ih, List.append_assoc, show i + 1 + j = i + (j + 1) by omega]
theorem declsB_err {e : Int × Int} (l2 : List Dcl) : ∀ {l : List Dcl} {T : Tab}, declsB T l = .error e → declsB T (l ++ l2) = .error e
  | [], T, h => by cases h
  | d :: l, T, h => by
    simp only [declsB, List.cons_append] at h ⊢
    split at h
    · rename_i c; rw [if_pos c]; exact h
    · rename_i c
      rw [if_neg c]
      split at h
      · exact h
      · exact declsB_err l2 h
theorem declsB_ok {T' : Tab} (l2 : List Dcl) : ∀ {l : List Dcl} {T : Tab}, declsB T (l ++ l2) = .ok T' → ∃ T1, declsB T l = .ok T1
  | [], T, h => ⟨T, rfl⟩
  | d :: l, T, h => by
    simp only [declsB, List.cons_append] at h ⊢
    split at h
    · cases h
    · rename_i c
      rw [if_neg c]
      split at h
      · cases h
      · exact declsB_ok l2 h
def isOk : Except (Int × Int) Tab → Bool
  | .ok _ => true
  | .error _ => false
def isErr (c a : Int) : Except (Int × Int) Tab → Bool
  | .ok _ => false
  | .error e => decide (e.1 = c ∧ e.2 = a)
theorem ok_all : ∀ k, k < 4 → isOk (declsB tab0 (gcat (fun i => [dclK k i]) 0 (mostK k))) = true := by decide +kernel
theorem err_all : ∀ k, k < 4 → isErr 16 ((offK k (mostK k) + ((wordL k).length + 1) : Nat) : Int) (declsB tab0 (gcat (fun i => [dclK k i]) 0 (mostK k + 1))) = true := by decide +kernel
theorem txt_sz {k : Nat} (hk : k ≤ 3) (n : Nat) : (txt k n).size = offK k n := by
  show (txt k n).data.toList.length = _
  rw [txt_list hk]
  have hl : ∀ (j i : Nat), (gcat (declT k) i j).length = j * szK k := by
    intro j
    induction j with
    | zero => intro i; simp [gcat]
    | succ j ih =>
      intro i
      have hl : (declT k i).length = szK k := by simp [declT, szK, nameL]; omega
      simp only [gcat, List.length_append, ih, hl, Nat.succ_mul]; omega
  simp only [List.length_append, hl, offK]
  rfl
theorem word_sz {k : Nat} (hk : k ≤ 3) : (wordK k).size = (wordL k).length + 1 := by
  show (wordK k).data.toList.length = _
  rw [wordK_list hk]; simp
theorem chk_all {k n : Nat} (hk : k ≤ 3) (h1 : 1 ≤ n) (hn : n ≤ 40) : chk k n = true := by
  obtain ⟨S, e, e1, e2⟩ := src_read hk hn
  unfold chk
  rw [e]
  have hlen : ∀ (j i : Nat), (gcat (fun i => [dclK k i]) i j).length = j := by
    intro j
    induction j with
    | zero => intro i; rfl
    | succ j ih => intro i; simp only [gcat, List.length_append, ih, List.length_cons, List.length_nil]; omega
  have hall : ∀ (j i : Nat), (gcat (fun i => [dclK k i]) i j).all (fun d => decide (d.n ≤ 1099511627776)) = true := by
    intro j
    induction j with
    | zero => intro i; rfl
    | succ j ih =>
      intro i
      have : (dclK k i).n ≤ 1099511627776 := by show nmK k ≤ _; unfold nmK; split <;> omega
      simp only [gcat, List.all_append, ih, List.all_cons, List.all_nil, this, decide_true, Bool.and_self]
  simp only [e1, e2, hall, hlen, List.isEmpty_nil, Bool.true_and, Bool.and_eq_true, decide_eq_true_eq]
  refine ⟨by omega, ?_⟩
  by_cases hm : n ≤ mostK k
  · have h := ok_all k (by omega)
    cases hd : declsB tab0 (gcat (fun i => [dclK k i]) 0 (mostK k)) with
    | error e => rw [hd] at h; cases h
    | ok T =>
      rw [show mostK k = n + (mostK k - n) by omega, gcat_add] at hd
      obtain ⟨T1, h2⟩ := declsB_ok _ hd
      rw [h2]
      simpa using hm
  · have h := err_all k (by omega)
    cases hd : declsB tab0 (gcat (fun i => [dclK k i]) 0 (mostK k + 1)) with
    | ok T => rw [hd] at h; cases h
    | error e =>
      rw [hd] at h
      simp only [isErr, decide_eq_true_eq] at h
      have h2 := declsB_err (gcat (fun i => [dclK k i]) (0 + (mostK k + 1)) (n - (mostK k + 1))) hd
      rw [← gcat_add, show mostK k + 1 + (n - (mostK k + 1)) = n by omega] at h2
      rw [h2]
      obtain ⟨c, a⟩ := e
      obtain ⟨rfl, rfl⟩ := h
      simp only [Bool.and_eq_true, decide_eq_true_eq]
      refine ⟨⟨by omega, trivial⟩, ?_⟩
      rw [txt_sz hk, word_sz hk]; simp
end Go.Vm.Scope
