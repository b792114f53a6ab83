/- What is proved: reading goes on; the reader of expressions answers, given steps enough. -/
import Derived.Test.YtbjcfdopkaekjaaParse4
namespace Go.Vm.Parse
open Go Go.Proofs
set_option maxRecDepth 100000
set_option maxHeartbeats 1000000
set_option linter.unusedSimpArgs false
set_option linter.unusedVariables false
theorem takeS_c (L : List Tk) (s : PS) (x : ByteArray) : (takeS L s x).c = s.c ∧ s.p ≤ (takeS L s x).p := by
  unfold takeS
  split <;> simp
/-- Reading goes on: a place that is no less; a fault stays. -/
structure PS.le (s s' : PS) : Prop where
  place : s.p ≤ s'.p
  code : s'.c = 0 → s.c = 0
theorem PS.le_refl (s : PS) : s.le s := ⟨Nat.le_refl _, fun h => h⟩
theorem PS.le.le_trans {a b c : PS} (h : a.le b) (k : b.le c) : a.le c := ⟨Nat.le_trans h.place k.place, fun e => h.code (k.code e)⟩
theorem PS.le_on (s : PS) : s.le s.on := ⟨Nat.le_succ _, fun h => h⟩
theorem faultS_le (L : List Tk) (s : PS) {c : Int} (hc : c ≠ 0) : s.le (faultS L s c) ∧ (faultS L s c).c ≠ 0 := by
  unfold faultS
  split
  · exact ⟨⟨Nat.le_refl _, fun h => absurd h hc⟩, hc⟩
  · rename_i h; exact ⟨PS.le_refl _, h⟩
theorem takeS_le (L : List Tk) (s : PS) (x : ByteArray) : s.le (takeS L s x) := ⟨(takeS_c L s x).2, fun h => by rw [(takeS_c L s x).1] at h; exact h⟩
theorem mustS_le (L : List Tk) (s : PS) (x : ByteArray) : s.le (mustS L s x) := by
  unfold mustS
  split
  · exact PS.le_on s
  · exact (faultS_le L s (by omega)).1
theorem opensS_le (L : List Tk) (s : PS) (lv : Int) : s.le (opensS L s lv) := by
  unfold opensS
  split
  · exact (faultS_le L s (by omega)).1
  · exact PS.le_refl _
theorem nameS_le (L : List Tk) (s : PS) : s.le (nameS L s) ∧ ((nameS L s).c = 0 → s.p < (nameS L s).p) := by
  unfold nameS
  split
  · exact ⟨PS.le_on s, fun _ => Nat.lt_succ_self _⟩
  · have := faultS_le L s (c := 14) (by omega); exact ⟨this.1, fun h => absurd h this.2⟩
theorem numS_le (L : List Tk) (s : PS) : s.le (numS L s) := by
  unfold numS
  split
  · exact PS.le_on s
  · exact (faultS_le L s (by omega)).1
def XC.isLoop : XC → Bool
  | .loop .. => true
  | _ => false
theorem x_le (L : List Tk) : ∀ n cmd s e s', xP L n cmd s = some (e, s') → s.le s' ∧ (cmd.isLoop = false → s'.c = 0 → s.p < s'.p) := by
  intro n
  induction n with
  | zero => intro cmd s e s' h; cases h
  | succ n ih =>
    intro cmd s e s' h
    have st : ∀ {a b : PS}, a.on.le b → a.p < b.p := fun h => Nat.lt_of_lt_of_le (Nat.lt_succ_self _) h.1
    have op : ∀ {lv : Int}, ¬ (opensS L s lv).c ≠ 0 → (opensS L s lv).p = s.p ∧ (opensS L s lv).c = 0 := fun {lv} h => by
      unfold opensS at *
      split at h
      · rename_i hl; exact absurd (faultS_le L s (by omega)).2 h
      · rename_i hl; rw [if_neg hl]; exact ⟨rfl, by simpa using h⟩
    cases cmd with
    | row k lv =>
      rw [xP] at h
      split at h
      · rename_i hc; cases h; exact ⟨PS.le_refl _, fun _ h => absurd h hc⟩
      · split at h
        · have := ih _ _ _ _ h; exact ⟨this.1, fun _ => this.2 rfl⟩
        · split at h
          · split at h
            · have := ih _ _ _ _ h; exact ⟨this.1, fun _ => this.2 rfl⟩
            · split at h
              · rename_i ho; cases h; exact ⟨opensS_le _ _ _, fun _ h => absurd h ho⟩
              · rename_i ho
                simp only [Option.map_eq_some_iff] at h
                obtain ⟨⟨e1, s1⟩, h1, h2⟩ := h
                cases h2
                have := (ih _ _ _ _ h1).1
                have h3 := (op ho).1
                exact ⟨(opensS_le _ _ _).le_trans ((PS.le_on _).le_trans this), fun _ _ => h3 ▸ st this⟩
          · simp only [Option.bind_eq_some_iff] at h
            obtain ⟨⟨e1, s1⟩, h1, h2⟩ := h
            have a := ih _ _ _ _ h1
            have b := ih _ _ _ _ h2
            exact ⟨a.1.le_trans b.1, fun _ hc => Nat.lt_of_lt_of_le (a.2 rfl (b.1.2 hc)) b.1.1⟩
    | loop k lv x =>
      refine ⟨?_, fun h => by cases h⟩
      rw [xP] at h
      split at h
      · cases h; exact PS.le_refl _
      · simp only [Option.bind_eq_some_iff] at h
        obtain ⟨⟨e1, s1⟩, h1, h2⟩ := h
        have a := (PS.le_on s).le_trans (ih _ _ _ _ h1).1
        split at h2
        · cases h2; exact a
        · exact a.le_trans (ih _ _ _ _ h2).1
    | fact lv =>
      rw [xP] at h
      split at h
      · split at h
        · rename_i ho; cases h; exact ⟨opensS_le _ _ _, fun _ h => absurd h ho⟩
        · rename_i ho
          simp only [Option.map_eq_some_iff] at h
          obtain ⟨⟨e1, s1⟩, h1, h2⟩ := h
          cases h2
          have := (ih _ _ _ _ h1).1
          have h3 := (op ho).1
          exact ⟨(opensS_le _ _ _).le_trans ((PS.le_on _).le_trans this), fun _ _ => h3 ▸ st this⟩
      · split at h
        · cases h; exact ⟨PS.le_on s, fun _ _ => Nat.lt_succ_self _⟩
        · split at h
          · cases h; exact ⟨PS.le_on s, fun _ _ => Nat.lt_succ_self _⟩
          · split at h
            · cases h; exact ⟨PS.le_on s, fun _ _ => Nat.lt_succ_self _⟩
            · split at h
              · split at h
                · rename_i ho; cases h; exact ⟨opensS_le _ _ _, fun _ h => absurd h ho⟩
                · rename_i ho
                  simp only [Option.map_eq_some_iff] at h
                  obtain ⟨⟨e1, s1⟩, h1, h2⟩ := h
                  cases h2
                  have := (ih _ _ _ _ h1).1
                  have h3 := (op ho).1
                  have h4 := mustS_le L s1 (b1 41)
                  exact ⟨(opensS_le _ _ _).le_trans ((PS.le_on _).le_trans (this.le_trans h4)), fun _ _ => h3 ▸ st (this.le_trans h4)⟩
              · split at h
                · split at h
                  · cases h; exact ⟨PS.le_on s, fun _ _ => Nat.lt_succ_self _⟩
                  · simp only [Option.map_eq_some_iff] at h
                    obtain ⟨⟨e1, s1⟩, h1, h2⟩ := h
                    cases h2
                    have := (ih _ _ _ _ h1).1
                    exact ⟨(PS.le_on s).le_trans this, fun _ _ => st this⟩
                · cases h
                  have := faultS_le L s (c := 14) (by omega)
                  exact ⟨this.1, fun _ h => absurd h this.2⟩
    | index lv =>
      rw [xP] at h
      split at h
      · cases h
        have := faultS_le L s (c := 14) (by omega)
        exact ⟨this.1, fun _ h => absurd h this.2⟩
      · split at h
        · cases h
          have := faultS_le L (opensS L s (lv + 1)) (c := 14) (by omega)
          exact ⟨(opensS_le _ _ _).le_trans this.1, fun _ h => absurd h this.2⟩
        · rename_i ho
          simp only [Option.map_eq_some_iff] at h
          obtain ⟨⟨e1, s1⟩, h1, h2⟩ := h
          cases h2
          have := (ih _ _ _ _ h1).1
          have h3 := (op ho).1
          have h4 := mustS_le L s1 (b1 93)
          exact ⟨(opensS_le _ _ _).le_trans ((PS.le_on _).le_trans (this.le_trans h4)), fun _ _ => h3 ▸ st (this.le_trans h4)⟩

end Go.Vm.Parse
namespace Go.Vm
/-- From some number on the same answer. -/
def Tot {α : Type} (f : Nat → Option α) : Prop := ∃ m r, ∀ n, m ≤ n → f n = some r
theorem Tot.pure {α : Type} (r : α) : Tot fun _ => some r := ⟨0, r, fun _ _ => rfl⟩
theorem Tot.succ {α : Type} {f g : Nat → Option α} (h : Tot g) (e : ∀ n, f (n + 1) = g n) : Tot f := by
  obtain ⟨m, r, h⟩ := h
  refine ⟨m + 1, r, fun n hn => ?_⟩
  obtain ⟨k, rfl⟩ : ∃ k, n = k + 1 := ⟨n - 1, by omega⟩
  rw [e k]; exact h k (by omega)
theorem Tot.bind {α β : Type} {f : Nat → Option α} {g : α → Nat → Option β} (h : Tot f) (k : ∀ n r, f n = some r → Tot (g r)) : Tot fun n => (f n).bind fun r => g r n := by
  obtain ⟨m, r, h⟩ := h
  obtain ⟨m2, r2, h2⟩ := k m r (h m (Nat.le_refl m))
  exact ⟨max m m2, r2, fun n hn => by show (f n).bind _ = _; rw [h n (by omega)]; exact h2 n (by omega)⟩
theorem Tot.map {α β : Type} {f : Nat → Option α} (h : Tot f) (g : α → β) : Tot fun n => (f n).map g := by
  obtain ⟨m, r, h⟩ := h
  exact ⟨m, g r, fun n hn => by show (f n).map g = _; rw [h n hn]; rfl⟩
theorem Tot.ite {α : Type} {c : Prop} [Decidable c] {f g : Nat → Option α} (hf : c → Tot f) (hg : ¬ c → Tot g) : Tot fun n => if c then f n else g n := by
  by_cases h : c
  · obtain ⟨m, r, k⟩ := hf h; exact ⟨m, r, fun n hn => (if_pos h).trans (k n hn)⟩
  · obtain ⟨m, r, k⟩ := hg h; exact ⟨m, r, fun n hn => (if_neg h).trans (k n hn)⟩
theorem Tot.some {α : Type} {f : Nat → Option α} (h : Tot f) : ∃ n r, f n = some r := let ⟨m, r, h⟩ := h; ⟨m, r, h m (Nat.le_refl m)⟩
end Go.Vm
namespace Go.Vm.Parse
open Go Go.Proofs
set_option maxRecDepth 100000
set_option maxHeartbeats 1000000
set_option linter.unusedSimpArgs false
set_option linter.unusedVariables false
theorem opP_lt {L : List Tk} {s : PS} {k : Int} (h : opP L s k ≠ 0) : s.c = 0 ∧ s.p < L.length := by
  unfold opP at h
  split at h
  · rename_i hc; exact ⟨hc.1, tok_ge_kind (by rcases hc.2 with h | h <;> omega)⟩
  · exact absurd rfl h
theorem opensS_p (L : List Tk) (s : PS) (lv : Int) : (opensS L s lv).p = s.p := by
  unfold opensS faultS
  split
  · split <;> rfl
  · rfl
theorem isP_c {L : List Tk} {s : PS} {x : ByteArray} (h : isP L s x = true) : s.c = 0 := by
  unfold isP at h; simp only [decide_eq_true_eq] at h; exact h.1
/-- What is asked of a command. -/
def XC.ok : XC → Prop
  | .row k _ => 1 ≤ k ∧ k ≤ 7
  | .loop k _ _ => 1 ≤ k ∧ k ≤ 6 ∧ k ≠ 3
  | _ => True
theorem x_tot (L : List Tk) : ∀ M s, L.length - s.p ≤ M → ∀ cmd : XC, cmd.ok → Tot fun n => xP L n cmd s := by
  intro M
  induction M using Nat.strongRecOn with
  | _ M ih =>
  intro s hM
  have ih' : ∀ s', s.p < L.length → s.p < s'.p → ∀ cmd : XC, cmd.ok → Tot fun n => xP L n cmd s' := fun s' h1 h2 cmd hc => ih (L.length - s'.p) (by omega) s' (Nat.le_refl _) cmd hc
  have on : ∀ lv, (opensS L s lv).on.p = s.p + 1 := fun lv => by show (opensS L s lv).p + 1 = _; rw [opensS_p]
  have tFact : ∀ lv, Tot fun n => xP L n (.fact lv) s := fun lv => by
    refine Tot.succ ?_ (fun n => by rw [xP])
    refine Tot.ite (fun h => ?_) (fun _ => ?_)
    · refine Tot.ite (fun _ => Tot.pure _) (fun _ => ?_)
      exact (ih' _ (isP_lt h) (by rw [on]; omega) (.fact (lv + 1)) trivial).map _
    refine Tot.ite (fun h => Tot.pure _) (fun _ => ?_)
    refine Tot.ite (fun h => Tot.pure _) (fun _ => ?_)
    refine Tot.ite (fun h => Tot.pure _) (fun _ => ?_)
    refine Tot.ite (fun h => ?_) (fun _ => ?_)
    · refine Tot.ite (fun _ => Tot.pure _) (fun _ => ?_)
      exact (ih' _ (isP_lt h) (by rw [on]; omega) (.row 1 (lv + 1)) ⟨by omega, by omega⟩).map _
    refine Tot.ite (fun h => ?_) (fun _ => Tot.pure _)
    refine Tot.ite (fun _ => Tot.pure _) (fun _ => ?_)
    exact (ih' s.on (tok_ge_kind (by omega)) (Nat.lt_succ_self _) (.index lv) trivial).map _
  have tIndex : ∀ lv, Tot fun n => xP L n (.index lv) s := fun lv => by
    refine Tot.succ ?_ (fun n => by rw [xP])
    refine Tot.ite (fun h => Tot.pure _) (fun h => ?_)
    refine Tot.ite (fun _ => Tot.pure _) (fun _ => ?_)
    exact (ih' _ (isP_lt (x := b1 91) (by simpa using h)) (by rw [on]; omega) (.row 1 (lv + 1)) ⟨by omega, by omega⟩).map _
  have tLoop : ∀ k lv x, (1 ≤ k ∧ k ≤ 6 ∧ k ≠ 3) → Tot fun n => xP L n (.loop k lv x) s := fun k lv x hk => by
    refine Tot.succ ?_ (fun n => by rw [xP])
    refine Tot.ite (fun h => Tot.pure _) (fun h => ?_)
    have hl := (opP_lt h).2
    refine (ih' s.on hl (Nat.lt_succ_self _) (.row (k + 1) lv) ⟨by omega, by omega⟩).bind fun n q hq => ?_
    refine Tot.ite (fun h => Tot.pure _) (fun _ => ?_)
    have := (x_le L _ _ _ _ _ hq).1.place
    exact ih' q.2 hl (Nat.lt_of_lt_of_le (Nat.lt_succ_self s.p) this) (.loop k lv _) hk
  have tLow : ∀ k lv, (1 ≤ k ∧ k ≤ 6 ∧ k ≠ 3) → (Tot fun n => xP L n (.row (k + 1) lv) s) → Tot fun n => xP L n (.row k lv) s := fun k lv hk hr => by
    refine Tot.succ ?_ (fun n => by rw [xP])
    refine Tot.ite (fun h => Tot.pure _) (fun h => ?_)
    refine Tot.ite (fun h => absurd h (by omega)) (fun _ => ?_)
    refine Tot.ite (fun h => absurd h (by omega)) (fun _ => ?_)
    refine hr.bind fun n q hq => ?_
    by_cases ho : opP L q.2 k = 0
    · exact Tot.succ (Tot.pure _) (fun n => by rw [xP, if_pos ho])
    · have h1 := opP_lt ho
      have h2 := x_le L _ _ _ _ _ hq
      exact ih' q.2 (Nat.lt_of_le_of_lt h2.1.place h1.2) (h2.2 rfl h1.1) (.loop k lv _) hk
  have t7 : ∀ lv, Tot fun n => xP L n (.row 7 lv) s := fun lv => by
    refine Tot.succ ?_ (fun n => by rw [xP])
    refine Tot.ite (fun h => Tot.pure _) (fun h => ?_)
    exact Tot.ite (fun h => tFact lv) (fun h => absurd rfl h)
  have t6 : ∀ lv, Tot fun n => xP L n (.row 6 lv) s := fun lv => tLow 6 lv (by omega) (t7 lv)
  have t5 : ∀ lv, Tot fun n => xP L n (.row 5 lv) s := fun lv => tLow 5 lv (by omega) (t6 lv)
  have t4 : ∀ lv, Tot fun n => xP L n (.row 4 lv) s := fun lv => tLow 4 lv (by omega) (t5 lv)
  have t3 : ∀ lv, Tot fun n => xP L n (.row 3 lv) s := fun lv => by
    refine Tot.succ ?_ (fun n => by rw [xP])
    refine Tot.ite (fun h => Tot.pure _) (fun h => ?_)
    refine Tot.ite (fun h => absurd h (by omega)) (fun _ => ?_)
    refine Tot.ite (fun _ => ?_) (fun h => absurd rfl h)
    refine Tot.ite (fun _ => t4 lv) (fun h => ?_)
    refine Tot.ite (fun _ => Tot.pure _) (fun _ => ?_)
    exact (ih' _ (isP_lt (x := tNot) (by simpa using h)) (by rw [on]; omega) (.row 3 (lv + 1)) ⟨by omega, by omega⟩).map _
  have t2 : ∀ lv, Tot fun n => xP L n (.row 2 lv) s := fun lv => tLow 2 lv (by omega) (t3 lv)
  have t1 : ∀ lv, Tot fun n => xP L n (.row 1 lv) s := fun lv => tLow 1 lv (by omega) (t2 lv)
  intro cmd hc
  cases cmd with
  | row k lv =>
    obtain ⟨h1, h2⟩ := hc
    rcases (show k = 1 ∨ k = 2 ∨ k = 3 ∨ k = 4 ∨ k = 5 ∨ k = 6 ∨ k = 7 by omega) with rfl | rfl | rfl | rfl | rfl | rfl | rfl
    · exact t1 lv
    · exact t2 lv
    · exact t3 lv
    · exact t4 lv
    · exact t5 lv
    · exact t6 lv
    · exact t7 lv
  | loop k lv x => exact tLoop k lv x hc
  | fact lv => exact tFact lv
  | index lv => exact tIndex lv
theorem x_ans (L : List Tk) (s : PS) (cmd : XC) (h : cmd.ok) : Tot fun n => xP L n cmd s := x_tot L _ s (Nat.le_refl _) cmd h
theorem row_ans (L : List Tk) (s : PS) (lv : Int) : Tot fun n => xP L n (.row 1 lv) s := x_ans L s _ ⟨by omega, by omega⟩

end Go.Vm.Parse
