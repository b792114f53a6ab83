/- What is proved: the readers of bytes, expressions, statements and sources answer, given steps enough. -/
import Derived.Test.YthodeippnckeoaaParse20
namespace Go.Vm
/-- From some number on the same answer. -/
def Tot {α : Type} (f : Nat → Option α) : Prop := ∃ m r, ∀ n, m ≤ n → f n = some r
theorem Tot.pure {α : Type} (r : α) : Tot fun _ => some r := ⟨0, r, fun _ _ => rfl⟩
theorem Tot.succ {α : Type} {f g : Nat → Option α} (h : Tot g) (e : ∀ n, f (n + 1) = g n) : Tot f := by
  obtain ⟨m, r, h⟩ := h
  refine ⟨m + 1, r, fun n hn => ?_⟩
  obtain ⟨k, rfl⟩ : ∃ k, n = k + 1 := ⟨n - 1, by omega⟩
  rw [e k]; exact h k (by omega)
theorem Tot.bind {α β : Type} {f : Nat → Option α} {g : α → Nat → Option β} (h : Tot f) (k : ∀ n r, f n = some r → Tot (g r)) : Tot fun n => (f n).bind fun r => g r n := by
  obtain ⟨m, r, h⟩ := h
  obtain ⟨m2, r2, h2⟩ := k m r (h m (Nat.le_refl m))
  exact ⟨max m m2, r2, fun n hn => by show (f n).bind _ = _; rw [h n (by omega)]; exact h2 n (by omega)⟩
theorem Tot.map {α β : Type} {f : Nat → Option α} (h : Tot f) (g : α → β) : Tot fun n => (f n).map g := by
  obtain ⟨m, r, h⟩ := h
  exact ⟨m, g r, fun n hn => by show (f n).map g = _; rw [h n hn]; rfl⟩
theorem Tot.ite {α : Type} {c : Prop} [Decidable c] {f g : Nat → Option α} (hf : c → Tot f) (hg : ¬ c → Tot g) : Tot fun n => if c then f n else g n := by
  by_cases h : c
  · obtain ⟨m, r, k⟩ := hf h; exact ⟨m, r, fun n hn => (if_pos h).trans (k n hn)⟩
  · obtain ⟨m, r, k⟩ := hg h; exact ⟨m, r, fun n hn => (if_neg h).trans (k n hn)⟩
theorem Tot.some {α : Type} {f : Nat → Option α} (h : Tot f) : ∃ n r, f n = some r := let ⟨m, r, h⟩ := h; ⟨m, r, h m (Nat.le_refl m)⟩
end Go.Vm
namespace Go.Vm.Parse
open Go Go.Proofs
set_option maxRecDepth 100000
set_option maxHeartbeats 1000000
set_option linter.unusedSimpArgs false
set_option linter.unusedVariables false
theorem opP_lt {L : List Tk} {s : PS} {k : Int} (h : opP L s k ≠ 0) : s.c = 0 ∧ s.p < L.length := by
  unfold opP at h
  split at h
  · rename_i hc; exact ⟨hc.1, tok_ge_kind (by rcases hc.2 with h | h <;> omega)⟩
  · exact absurd rfl h
theorem opensS_p (L : List Tk) (s : PS) (lv : Int) : (opensS L s lv).p = s.p := by
  unfold opensS faultS
  split
  · split <;> rfl
  · rfl
theorem isP_c {L : List Tk} {s : PS} {x : ByteArray} (h : isP L s x = true) : s.c = 0 := by
  unfold isP at h; simp only [decide_eq_true_eq] at h; exact h.1
/-- What is asked of a command. -/
def XC.ok : XC → Prop
  | .row k _ => 1 ≤ k ∧ k ≤ 7
  | .loop k _ _ => 1 ≤ k ∧ k ≤ 6 ∧ k ≠ 3
  | _ => True
theorem x_tot (L : List Tk) : ∀ M s, L.length - s.p ≤ M → ∀ cmd : XC, cmd.ok → Tot fun n => xP L n cmd s := by
  intro M
  induction M using Nat.strongRecOn with
  | _ M ih =>
  intro s hM
  have ih' : ∀ s', s.p < L.length → s.p < s'.p → ∀ cmd : XC, cmd.ok → Tot fun n => xP L n cmd s' := fun s' h1 h2 cmd hc => ih (L.length - s'.p) (by omega) s' (Nat.le_refl _) cmd hc
  have on : ∀ lv, (opensS L s lv).on.p = s.p + 1 := fun lv => by show (opensS L s lv).p + 1 = _; rw [opensS_p]
  have tFact : ∀ lv, Tot fun n => xP L n (.fact lv) s := fun lv => by
    refine Tot.succ ?_ (fun n => by rw [xP])
    refine Tot.ite (fun h => ?_) (fun _ => ?_)
    · refine Tot.ite (fun _ => Tot.pure _) (fun _ => ?_)
      exact (ih' _ (isP_lt h) (by rw [on]; omega) (.fact (lv + 1)) trivial).map _
    refine Tot.ite (fun h => Tot.pure _) (fun _ => ?_)
    refine Tot.ite (fun h => Tot.pure _) (fun _ => ?_)
    refine Tot.ite (fun h => Tot.pure _) (fun _ => ?_)
    refine Tot.ite (fun h => ?_) (fun _ => ?_)
    · refine Tot.ite (fun _ => Tot.pure _) (fun _ => ?_)
      exact (ih' _ (isP_lt h) (by rw [on]; omega) (.row 1 (lv + 1)) ⟨by omega, by omega⟩).map _
    refine Tot.ite (fun h => ?_) (fun _ => Tot.pure _)
    refine Tot.ite (fun _ => Tot.pure _) (fun _ => ?_)
    exact (ih' s.on (tok_ge_kind (by omega)) (Nat.lt_succ_self _) (.index lv) trivial).map _
  have tIndex : ∀ lv, Tot fun n => xP L n (.index lv) s := fun lv => by
    refine Tot.succ ?_ (fun n => by rw [xP])
    refine Tot.ite (fun h => Tot.pure _) (fun h => ?_)
    refine Tot.ite (fun _ => Tot.pure _) (fun _ => ?_)
    exact (ih' _ (isP_lt (x := b1 91) (by simpa using h)) (by rw [on]; omega) (.row 1 (lv + 1)) ⟨by omega, by omega⟩).map _
  have tLoop : ∀ k lv x, (1 ≤ k ∧ k ≤ 6 ∧ k ≠ 3) → Tot fun n => xP L n (.loop k lv x) s := fun k lv x hk => by
    refine Tot.succ ?_ (fun n => by rw [xP])
    refine Tot.ite (fun h => Tot.pure _) (fun h => ?_)
    have hl := (opP_lt h).2
    refine (ih' s.on hl (Nat.lt_succ_self _) (.row (k + 1) lv) ⟨by omega, by omega⟩).bind fun n q hq => ?_
    refine Tot.ite (fun h => Tot.pure _) (fun _ => ?_)
    have := (x_le L _ _ _ _ _ hq).1.place
    exact ih' q.2 hl (Nat.lt_of_lt_of_le (Nat.lt_succ_self s.p) this) (.loop k lv _) hk
  have tLow : ∀ k lv, (1 ≤ k ∧ k ≤ 6 ∧ k ≠ 3) → (Tot fun n => xP L n (.row (k + 1) lv) s) → Tot fun n => xP L n (.row k lv) s := fun k lv hk hr => by
    refine Tot.succ ?_ (fun n => by rw [xP])
    refine Tot.ite (fun h => Tot.pure _) (fun h => ?_)
    refine Tot.ite (fun h => absurd h (by omega)) (fun _ => ?_)
    refine Tot.ite (fun h => absurd h (by omega)) (fun _ => ?_)
    refine hr.bind fun n q hq => ?_
    by_cases ho : opP L q.2 k = 0
    · exact Tot.succ (Tot.pure _) (fun n => by rw [xP, if_pos ho])
    · have h1 := opP_lt ho
      have h2 := x_le L _ _ _ _ _ hq
      exact ih' q.2 (Nat.lt_of_le_of_lt h2.1.place h1.2) (h2.2 rfl h1.1) (.loop k lv _) hk
  have t7 : ∀ lv, Tot fun n => xP L n (.row 7 lv) s := fun lv => by
    refine Tot.succ ?_ (fun n => by rw [xP])
    refine Tot.ite (fun h => Tot.pure _) (fun h => ?_)
    exact Tot.ite (fun h => tFact lv) (fun h => absurd rfl h)
  have t6 : ∀ lv, Tot fun n => xP L n (.row 6 lv) s := fun lv => tLow 6 lv (by omega) (t7 lv)
  have t5 : ∀ lv, Tot fun n => xP L n (.row 5 lv) s := fun lv => tLow 5 lv (by omega) (t6 lv)
  have t4 : ∀ lv, Tot fun n => xP L n (.row 4 lv) s := fun lv => tLow 4 lv (by omega) (t5 lv)
  have t3 : ∀ lv, Tot fun n => xP L n (.row 3 lv) s := fun lv => by
    refine Tot.succ ?_ (fun n => by rw [xP])
    refine Tot.ite (fun h => Tot.pure _) (fun h => ?_)
    refine Tot.ite (fun h => absurd h (by omega)) (fun _ => ?_)
    refine Tot.ite (fun _ => ?_) (fun h => absurd rfl h)
    refine Tot.ite (fun _ => t4 lv) (fun h => ?_)
    refine Tot.ite (fun _ => Tot.pure _) (fun _ => ?_)
    exact (ih' _ (isP_lt (x := tNot) (by simpa using h)) (by rw [on]; omega) (.row 3 (lv + 1)) ⟨by omega, by omega⟩).map _
  have t2 : ∀ lv, Tot fun n => xP L n (.row 2 lv) s := fun lv => tLow 2 lv (by omega) (t3 lv)
  have t1 : ∀ lv, Tot fun n => xP L n (.row 1 lv) s := fun lv => tLow 1 lv (by omega) (t2 lv)
  intro cmd hc
  cases cmd with
  | row k lv =>
    obtain ⟨h1, h2⟩ := hc
    rcases (show k = 1 ∨ k = 2 ∨ k = 3 ∨ k = 4 ∨ k = 5 ∨ k = 6 ∨ k = 7 by omega) with rfl | rfl | rfl | rfl | rfl | rfl | rfl
    · exact t1 lv
    · exact t2 lv
    · exact t3 lv
    · exact t4 lv
    · exact t5 lv
    · exact t6 lv
    · exact t7 lv
  | loop k lv x => exact tLoop k lv x hc
  | fact lv => exact tFact lv
  | index lv => exact tIndex lv
theorem x_ans (L : List Tk) (s : PS) (cmd : XC) (h : cmd.ok) : Tot fun n => xP L n cmd s := x_tot L _ s (Nat.le_refl _) cmd h
theorem row_ans (L : List Tk) (s : PS) (lv : Int) : Tot fun n => xP L n (.row 1 lv) s := x_ans L s _ ⟨by omega, by omega⟩

/-! ### Lists -/
theorem take_on {L : List Tk} {s : PS} {x : ByteArray} (h : isP L s x = true) : (takeS L s x).p = s.p + 1 := by unfold takeS; rw [if_pos h]
theorem argsL_tot (L : List Tk) (lv : Int) : ∀ M s acc again, L.length - s.p ≤ M → Tot fun n => argsL L lv n acc again s := by
  intro M
  induction M using Nat.strongRecOn with
  | _ M ih =>
  intro s acc again hM
  refine Tot.succ ?_ (fun n => by rw [argsL])
  refine Tot.ite (fun _ => ?_) (fun _ => Tot.pure _)
  refine (row_ans L s lv).bind fun n q hq => ?_
  by_cases hi : isP L q.2 comma = true
  · have h1 := isP_lt hi
    have h2 := (x_le L _ _ _ _ _ hq).1.place
    exact ih (L.length - (takeS L q.2 comma).p) (by rw [take_on hi]; omega) _ _ _ (Nat.le_refl _)
  · exact Tot.succ (Tot.pure _) (fun n => by rw [argsL, if_neg (fun h => hi h.1)])
theorem argsP_tot (L : List Tk) (lv : Int) (s : PS) : Tot fun n => argsP L n lv s := by
  unfold argsP
  exact Tot.ite (fun _ => Tot.pure _) (fun _ => (argsL_tot L lv _ _ _ _ (Nat.le_refl _)).map _)
theorem itemsL_tot (L : List Tk) : ∀ M s acc again, L.length - s.p ≤ M → Tot fun n => itemsL L n acc again s := by
  intro M
  induction M using Nat.strongRecOn with
  | _ M ih =>
  intro s acc again hM
  refine Tot.succ ?_ (fun n => by rw [itemsL])
  refine Tot.ite (fun _ => ?_) (fun _ => Tot.pure _)
  by_cases hi : isP L (numS L (nameS L s)) comma = true
  · have h1 := isP_lt hi
    have h2 := ((nameS_le L s).1.le_trans (numS_le L _)).place
    exact ih (L.length - (takeS L (numS L (nameS L s)) comma).p) (by rw [take_on hi]; omega) _ _ _ (Nat.le_refl _)
  · exact Tot.succ (Tot.pure _) (fun n => by rw [itemsL, if_neg (fun h => hi h.1)])
theorem items_ans (L : List Tk) (s : PS) : Tot fun n => itemsL L n [] true s := itemsL_tot L _ _ _ _ (Nat.le_refl _)
theorem identsL_tot (L : List Tk) : ∀ M s acc again, L.length - s.p ≤ M → Tot fun n => identsL L n acc again s := by
  intro M
  induction M using Nat.strongRecOn with
  | _ M ih =>
  intro s acc again hM
  refine Tot.succ ?_ (fun n => by rw [identsL])
  refine Tot.ite (fun _ => ?_) (fun _ => Tot.pure _)
  by_cases hi : isP L (nameS L s) comma = true
  · have h1 := isP_lt hi
    have h2 := (nameS_le L s).1.place
    exact ih (L.length - (takeS L (nameS L s) comma).p) (by rw [take_on hi]; omega) _ _ _ (Nat.le_refl _)
  · exact Tot.succ (Tot.pure _) (fun n => by rw [identsL, if_neg (fun h => hi h.1)])
theorem varsL_tot (L : List Tk) : ∀ M s acc, L.length - s.p ≤ M → Tot fun n => varsL L n acc s := by
  intro M
  induction M using Nat.strongRecOn with
  | _ M ih =>
  intro s acc hM
  refine Tot.succ ?_ (fun n => by rw [varsL])
  refine Tot.ite (fun hi => ?_) (fun _ => Tot.pure _)
  have h1 := isP_lt hi
  have h2 := ((nameS_le L s.on).1.le_trans (mustS_le L _ tSemi)).place
  have h3 : s.on.p = s.p + 1 := rfl
  exact ih (L.length - (mustS L (nameS L s.on) tSemi).p) (by omega) _ _ (Nat.le_refl _)
theorem branP_tot (L : List Tk) (lv : Int) (s : PS) : Tot fun n => branP L n lv s := by
  unfold branP
  refine (argsP_tot L lv _).bind fun n a ha => ?_
  exact Tot.ite (fun _ => (items_ans L _).map _) (fun _ => Tot.pure _)
def BTot (B : BrP) (L : List Tk) : Prop := ∀ lv s, Tot fun n => B L n lv s
theorem branL_tot {B : BrP} {L : List Tk} (hB : BLt B L) (hT : BTot B L) (lv : Int) : ∀ M s acc again, L.length - s.p ≤ M → Tot fun n => branL B L lv n acc again s := by
  intro M
  induction M using Nat.strongRecOn with
  | _ M ih =>
  intro s acc again hM
  refine Tot.succ ?_ (fun n => by rw [branL])
  refine Tot.ite (fun _ => ?_) (fun _ => Tot.pure _)
  refine (hT lv s).bind fun n q hq => ?_
  by_cases hi : isP L q.2 tSlash = true
  · have h1 := isP_lt hi
    have h2 := (hB _ _ _ _ _ hq).le.place
    exact ih (L.length - (takeS L q.2 tSlash).p) (by rw [take_on hi]; omega) _ _ _ (Nat.le_refl _)
  · exact Tot.succ (Tot.pure _) (fun n => by rw [branL, if_neg (fun h => hi h.1)])
theorem namedP_tot (L : List Tk) (lv : Int) (s : PS) : Tot fun n => namedP L n lv s := by
  unfold namedP
  refine Tot.ite (fun _ => (argsP_tot L lv _).map _) (fun _ => ?_)
  refine Tot.ite (fun _ => ?_) (fun _ => (row_ans L _ lv).map _)
  exact (x_ans L _ (.index lv) trivial).bind fun n i _ => (row_ans L _ lv).map _
theorem st_tot {B : BrP} {L : List Tk} (hB : BLt B L) (hT : BTot B L) : ∀ M s, L.length - s.p ≤ M →
    (∀ lv, Tot fun n => stmtP B L n lv s) ∧ (∀ lv acc again, Tot fun n => stmtsL B L n lv acc again s) ∧ (∀ o lv, Tot fun n => blockP B L n o lv s) := by
  intro M
  induction M using Nat.strongRecOn with
  | _ M ih =>
  intro s hM
  have ih' : ∀ s' : PS, s.p < L.length → s.p < s'.p → (∀ lv, Tot fun n => stmtP B L n lv s') ∧ (∀ lv acc again, Tot fun n => stmtsL B L n lv acc again s') ∧ (∀ o lv, Tot fun n => blockP B L n o lv s') :=
    fun s' h1 h2 => ih (L.length - s'.p) (by omega) s' (Nat.le_refl _)
  have hon : s.on.p = s.p + 1 := rfl
  have tS : ∀ lv, Tot fun n => stmtP B L n lv s := fun lv => by
    refine Tot.succ ?_ (fun n => by rw [stmtP])
    refine Tot.ite (fun _ => namedP_tot L lv s) (fun _ => ?_)
    refine Tot.ite (fun _ => Tot.pure _) (fun _ => ?_)
    refine Tot.ite (fun hi => ?_) (fun _ => ?_)
    · refine (row_ans L s.on lv).bind fun n x hx => ?_
      have h1 := (x_le L _ _ _ _ _ hx).1.place
      refine ((ih' x.2 (isP_lt hi) (by omega)).2.2 tThen lv).bind fun n b hb => ?_
      have h2 := ((st_le hB n).2.2 _ _ _ _ _ hb).place
      exact Tot.ite (fun _ => ((ih' b.2 (isP_lt hi) (by omega)).2.2 tElse lv).map _) (fun _ => Tot.pure _)
    refine Tot.ite (fun hi => ?_) (fun _ => ?_)
    · refine (row_ans L s.on lv).bind fun n x hx => ?_
      have h1 := (x_le L _ _ _ _ _ hx).1.place
      exact ((ih' x.2 (isP_lt hi) (by omega)).2.2 tDo lv).map _
    refine Tot.ite (fun hi => (branL_tot hB hT lv _ _ _ _ (Nat.le_refl _)).map _) (fun _ => ?_)
    refine Tot.ite (fun hi => Tot.pure _) (fun _ => ?_)
    refine Tot.ite (fun hi => ?_) (fun _ => ?_)
    · have h0 := (nameS_le L s.on).1.place
      refine Tot.ite (fun hw => ?_) (fun _ => ?_)
      · refine (row_ans L _ lv).bind fun n x hx => ?_
        have h1 := (x_le L _ _ _ _ _ hx).1.place
        have h3 : (nameS L s.on).on.p = (nameS L s.on).p + 1 := rfl
        exact ((ih' x.2 (isP_lt hi) (by omega)).2.2 tDo lv).map _
      · exact ((ih' (nameS L s.on) (isP_lt hi) (by omega)).2.2 tDo lv).map _
    refine Tot.ite (fun hi => (items_ans L _).map _) (fun _ => ?_)
    refine Tot.ite (fun hi => (items_ans L _).map _) (fun _ => ?_)
    refine Tot.ite (fun hi => ?_) (fun _ => ?_)
    · exact Tot.ite (fun hw => (x_ans L _ (.index lv) trivial).map _) (fun _ => Tot.pure _)
    exact Tot.ite (fun hi => (row_ans L _ lv).map _) (fun _ => Tot.pure _)
  have tL : ∀ lv acc again, Tot fun n => stmtsL B L n lv acc again s := fun lv acc again => by
    refine Tot.succ ?_ (fun n => by rw [stmtsL])
    refine Tot.ite (fun _ => ?_) (fun _ => Tot.pure _)
    refine (tS lv).bind fun n q hq => ?_
    by_cases hi : isP L q.2 tSemi = true
    · have h1 := isP_lt hi
      have h2 := ((st_le hB n).1 _ _ _ _ hq).le.place
      exact (ih' (takeS L q.2 tSemi) (by omega) (by rw [take_on hi]; omega)).2.1 lv _ _
    · exact Tot.succ (Tot.pure _) (fun n => by rw [stmtsL, if_neg (fun h => hi h.1)])
  refine ⟨tS, tL, fun o lv => ?_⟩
  refine Tot.succ ?_ (fun n => by rw [blockP])
  refine Tot.ite (fun _ => Tot.pure _) (fun hi => ?_)
  refine Tot.ite (fun _ => Tot.pure _) (fun _ => ?_)
  exact (ih' _ (isP_lt (x := o) (by simpa using hi)) (by show s.p < (opensS L s (lv + 1)).p + 1; rw [opensS_p]; omega)).2.1 _ _ _
theorem stmts_ans {B : BrP} {L : List Tk} (hB : BLt B L) (hT : BTot B L) (lv : Int) (s : PS) : Tot fun n => stmtsL B L n lv [] true s := (st_tot hB hT _ s (Nat.le_refl _)).2.1 lv [] true
theorem kindP_lt {L : List Tk} {s : PS} (h : kindP L s ≠ 0) : s.p < L.length := by
  unfold kindP at h
  split at h
  · rename_i hi; exact isP_lt hi
  · split at h
    · rename_i hi; exact isP_lt hi
    · split at h
      · rename_i hi; exact isP_lt hi
      · split at h
        · rename_i hi; exact isP_lt hi
        · exact absurd rfl h
theorem declsL_tot (L : List Tk) : ∀ M s acc, L.length - s.p ≤ M → Tot fun n => declsL L n acc s := by
  intro M
  induction M using Nat.strongRecOn with
  | _ M ih =>
  intro s acc hM
  refine Tot.succ ?_ (fun n => by rw [declsL])
  refine Tot.ite (fun _ => ?_) (fun _ => Tot.pure _)
  refine Tot.ite (fun _ => Tot.pure _) (fun hk => ?_)
  have h1 := kindP_lt hk
  have h2 := (dclS_lt L (kindP L s) s.on).place
  have h3 : s.on.p = s.p + 1 := rfl
  exact ih (L.length - (dclS L (kindP L s) s.on).p) (by omega) _ _ (Nat.le_refl _)
theorem procP_tot {B : BrP} {L : List Tk} (hB : BLt B L) (hT : BTot B L) (s : PS) : Tot fun n => procP B L n s := by
  unfold procP
  refine Tot.bind ?_ fun n a _ => ?_
  · unfold paramsP
    exact Tot.ite (fun _ => Tot.pure _) (fun _ => identsL_tot L _ _ _ _ (Nat.le_refl _))
  refine (varsL_tot L _ _ _ (Nat.le_refl _)).bind fun n b _ => ?_
  exact (stmts_ans hB hT 1 _).map _
theorem procsL_tot {B : BrP} {L : List Tk} (hB : BLt B L) (hT : BTot B L) : ∀ M s acc, L.length - s.p ≤ M → Tot fun n => procsL B L n acc s := by
  intro M
  induction M using Nat.strongRecOn with
  | _ M ih =>
  intro s acc hM
  refine Tot.succ ?_ (fun n => by rw [procsL])
  refine Tot.ite (fun hi => ?_) (fun _ => Tot.pure _)
  refine (procP_tot hB hT s.on).bind fun n q hq => ?_
  have h1 := isP_lt hi
  have h2 := (procP_lt hB (show procP B L n s.on = some (q.1, q.2) from hq)).le.place
  have h3 : s.on.p = s.p + 1 := rfl
  exact ih (L.length - q.2.p) (by omega) _ _ (Nat.le_refl _)
theorem srcP_tot {B : BrP} {L : List Tk} (hB : BLt B L) (hT : BTot B L) : Tot fun n => srcP B L n := by
  unfold srcP
  refine (declsL_tot L _ _ _ (Nat.le_refl _)).bind fun n d _ => ?_
  refine (procsL_tot hB hT _ _ _ (Nat.le_refl _)).bind fun n p _ => ?_
  refine Tot.bind ?_ fun n c _ => (stmts_ans hB hT 1 _).map _
  unfold claimsP
  exact Tot.ite (fun _ => (items_ans L _).map _) (fun _ => Tot.pure _)

/-! ### Bytes -/
theorem lexStep_to {src : List UInt8} {a : Nat} (h : a < src.length) {c : UInt8} {to : Nat} {t : Option Tk} (e : lexStep src a c = .more to t) : a < to ∧ to ≤ src.length := by
  have sp : ∀ p, a + 1 ≤ spanTo p src (a + 1) ∧ spanTo p src (a + 1) ≤ src.length := fun p => spanTo_le (by omega)
  unfold lexStep at e
  split at e
  · cases e; omega
  split at e
  · split at e
    · cases e
    · rename_i h2; cases e; have := sp (fun b => !decide (b.toNat = 125)); omega
  split at e
  · cases e; omega
  split at e
  · have := sp nameB
    split at e
    · cases e; omega
    split at e
    · cases e
    · cases e; omega
  split at e
  · have := sp digitB
    split at e
    · cases e
    · cases e; omega
  split at e
  · cases e
  · rename_i h2
    cases e
    have h3 := signP_le (src.drop a)
    rw [List.length_drop] at h3
    omega
theorem lex_ans (src : List UInt8) : ∀ n a out, a ≤ src.length → src.length < a + n → ∃ r, lexFrom src n a out = some r
  | 0, a, out, h1, h2 => by omega
  | n + 1, a, out, h1, h2 => by
    rw [lexFrom]
    split
    · rename_i h
      cases e : lexStep src a src[a] with
      | bad c p => exact ⟨_, rfl⟩
      | more to t =>
        have := lexStep_to h e
        cases t with
        | none => exact lex_ans src n to out (by omega) (by omega)
        | some t => exact lex_ans src n to (out ++ [t]) (by omega) (by omega)
    · exact ⟨_, rfl⟩
theorem branP_BLt (L : List Tk) : BLt branP L := fun n lv s b s' h => branP_lt h
theorem branP_BTot (L : List Tk) : BTot branP L := fun lv s => branP_tot L lv s
theorem parse_ans (src : List UInt8) : ∃ n r, parseP branP src n = some r := by
  obtain ⟨q, hq⟩ := lex_ans src (src.length + 1) 0 [] (Nat.zero_le _) (by omega)
  unfold parseP
  rw [hq]
  cases q with
  | inr f => exact ⟨0, _, rfl⟩
  | inl L => obtain ⟨n, r, h⟩ := (srcP_tot (branP_BLt L) (branP_BTot L)).some; exact ⟨n, r, h⟩
end Go.Vm.Parse
