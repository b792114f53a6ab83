/- What is proved: the readers of bytes, expressions, statements and sources answer, given steps enough. -/
import Derived.Test.YtbjcfdopkaekjaaParse20
import Derived.Test.YtbjcfdopkaekjaaLexL
namespace Go.Vm.Parse
open Go Go.Proofs
set_option maxRecDepth 100000
set_option maxHeartbeats 1000000
set_option linter.unusedSimpArgs false
set_option linter.unusedVariables false
/-! ### Lists -/
theorem take_on {L : List Tk} {s : PS} {x : ByteArray} (h : isP L s x = true) : (takeS L s x).p = s.p + 1 := by unfold takeS; rw [if_pos h]
theorem argsL_tot (L : List Tk) (lv : Int) : ∀ M s acc again, L.length - s.p ≤ M → Tot fun n => argsL L lv n acc again s := by
  intro M
  induction M using Nat.strongRecOn with
  | _ M ih =>
  intro s acc again hM
  refine Tot.succ ?_ (fun n => by rw [argsL])
  refine Tot.ite (fun _ => ?_) (fun _ => Tot.pure _)
  refine (row_ans L s lv).bind fun n q hq => ?_
  by_cases hi : isP L q.2 comma = true
  · have h1 := isP_lt hi
    have h2 := (x_le L _ _ _ _ _ hq).1.place
    exact ih (L.length - (takeS L q.2 comma).p) (by rw [take_on hi]; omega) _ _ _ (Nat.le_refl _)
  · exact Tot.succ (Tot.pure _) (fun n => by rw [argsL, if_neg (fun h => hi h.1)])
theorem argsP_tot (L : List Tk) (lv : Int) (s : PS) : Tot fun n => argsP L n lv s := by
  unfold argsP
  exact Tot.ite (fun _ => Tot.pure _) (fun _ => (argsL_tot L lv _ _ _ _ (Nat.le_refl _)).map _)
theorem itemsL_tot (L : List Tk) : ∀ M s acc again, L.length - s.p ≤ M → Tot fun n => itemsL L n acc again s := by
  intro M
  induction M using Nat.strongRecOn with
  | _ M ih =>
  intro s acc again hM
  refine Tot.succ ?_ (fun n => by rw [itemsL])
  refine Tot.ite (fun _ => ?_) (fun _ => Tot.pure _)
  by_cases hi : isP L (numS L (nameS L s)) comma = true
  · have h1 := isP_lt hi
    have h2 := ((nameS_le L s).1.le_trans (numS_le L _)).place
    exact ih (L.length - (takeS L (numS L (nameS L s)) comma).p) (by rw [take_on hi]; omega) _ _ _ (Nat.le_refl _)
  · exact Tot.succ (Tot.pure _) (fun n => by rw [itemsL, if_neg (fun h => hi h.1)])
theorem items_ans (L : List Tk) (s : PS) : Tot fun n => itemsL L n [] true s := itemsL_tot L _ _ _ _ (Nat.le_refl _)
theorem identsL_tot (L : List Tk) : ∀ M s acc again, L.length - s.p ≤ M → Tot fun n => identsL L n acc again s := by
  intro M
  induction M using Nat.strongRecOn with
  | _ M ih =>
  intro s acc again hM
  refine Tot.succ ?_ (fun n => by rw [identsL])
  refine Tot.ite (fun _ => ?_) (fun _ => Tot.pure _)
  by_cases hi : isP L (nameS L s) comma = true
  · have h1 := isP_lt hi
    have h2 := (nameS_le L s).1.place
    exact ih (L.length - (takeS L (nameS L s) comma).p) (by rw [take_on hi]; omega) _ _ _ (Nat.le_refl _)
  · exact Tot.succ (Tot.pure _) (fun n => by rw [identsL, if_neg (fun h => hi h.1)])
theorem varsL_tot (L : List Tk) : ∀ M s acc, L.length - s.p ≤ M → Tot fun n => varsL L n acc s := by
  intro M
  induction M using Nat.strongRecOn with
  | _ M ih =>
  intro s acc hM
  refine Tot.succ ?_ (fun n => by rw [varsL])
  refine Tot.ite (fun hi => ?_) (fun _ => Tot.pure _)
  have h1 := isP_lt hi
  have h2 := ((nameS_le L s.on).1.le_trans (mustS_le L _ tSemi)).place
  have h3 : s.on.p = s.p + 1 := rfl
  exact ih (L.length - (mustS L (nameS L s.on) tSemi).p) (by omega) _ _ (Nat.le_refl _)
theorem branP_tot (L : List Tk) (lv : Int) (s : PS) : Tot fun n => branP L n lv s := by
  unfold branP
  refine (argsP_tot L lv _).bind fun n a ha => ?_
  exact Tot.ite (fun _ => (items_ans L _).map _) (fun _ => Tot.pure _)
def BTot (B : BrP) (L : List Tk) : Prop := ∀ lv s, Tot fun n => B L n lv s
theorem branL_tot {B : BrP} {L : List Tk} (hB : BLt B L) (hT : BTot B L) (lv : Int) : ∀ M s acc again, L.length - s.p ≤ M → Tot fun n => branL B L lv n acc again s := by
  intro M
  induction M using Nat.strongRecOn with
  | _ M ih =>
  intro s acc again hM
  refine Tot.succ ?_ (fun n => by rw [branL])
  refine Tot.ite (fun _ => ?_) (fun _ => Tot.pure _)
  refine (hT lv s).bind fun n q hq => ?_
  by_cases hi : isP L q.2 tSlash = true
  · have h1 := isP_lt hi
    have h2 := (hB _ _ _ _ _ hq).le.place
    exact ih (L.length - (takeS L q.2 tSlash).p) (by rw [take_on hi]; omega) _ _ _ (Nat.le_refl _)
  · exact Tot.succ (Tot.pure _) (fun n => by rw [branL, if_neg (fun h => hi h.1)])
theorem namedP_tot (L : List Tk) (lv : Int) (s : PS) : Tot fun n => namedP L n lv s := by
  unfold namedP
  refine Tot.ite (fun _ => (argsP_tot L lv _).map _) (fun _ => ?_)
  refine Tot.ite (fun _ => ?_) (fun _ => (row_ans L _ lv).map _)
  exact (x_ans L _ (.index lv) trivial).bind fun n i _ => (row_ans L _ lv).map _
theorem st_tot {B : BrP} {L : List Tk} (hB : BLt B L) (hT : BTot B L) : ∀ M s, L.length - s.p ≤ M →
    (∀ lv, Tot fun n => stmtP B L n lv s) ∧ (∀ lv acc again, Tot fun n => stmtsL B L n lv acc again s) ∧ (∀ o lv, Tot fun n => blockP B L n o lv s) := by
  intro M
  induction M using Nat.strongRecOn with
  | _ M ih =>
  intro s hM
  have ih' : ∀ s' : PS, s.p < L.length → s.p < s'.p → (∀ lv, Tot fun n => stmtP B L n lv s') ∧ (∀ lv acc again, Tot fun n => stmtsL B L n lv acc again s') ∧ (∀ o lv, Tot fun n => blockP B L n o lv s') :=
    fun s' h1 h2 => ih (L.length - s'.p) (by omega) s' (Nat.le_refl _)
  have hon : s.on.p = s.p + 1 := rfl
  have tS : ∀ lv, Tot fun n => stmtP B L n lv s := fun lv => by
    refine Tot.succ ?_ (fun n => by rw [stmtP])
    refine Tot.ite (fun _ => namedP_tot L lv s) (fun _ => ?_)
    refine Tot.ite (fun _ => Tot.pure _) (fun _ => ?_)
    refine Tot.ite (fun hi => ?_) (fun _ => ?_)
    · refine (row_ans L s.on lv).bind fun n x hx => ?_
      have h1 := (x_le L _ _ _ _ _ hx).1.place
      refine ((ih' x.2 (isP_lt hi) (by omega)).2.2 tThen lv).bind fun n b hb => ?_
      have h2 := ((st_le hB n).2.2 _ _ _ _ _ hb).place
      exact Tot.ite (fun _ => ((ih' b.2 (isP_lt hi) (by omega)).2.2 tElse lv).map _) (fun _ => Tot.pure _)
    refine Tot.ite (fun hi => ?_) (fun _ => ?_)
    · refine (row_ans L s.on lv).bind fun n x hx => ?_
      have h1 := (x_le L _ _ _ _ _ hx).1.place
      exact ((ih' x.2 (isP_lt hi) (by omega)).2.2 tDo lv).map _
    refine Tot.ite (fun hi => (branL_tot hB hT lv _ _ _ _ (Nat.le_refl _)).map _) (fun _ => ?_)
    refine Tot.ite (fun hi => Tot.pure _) (fun _ => ?_)
    refine Tot.ite (fun hi => ?_) (fun _ => ?_)
    · have h0 := (nameS_le L s.on).1.place
      refine Tot.ite (fun hw => ?_) (fun _ => ?_)
      · refine (row_ans L _ lv).bind fun n x hx => ?_
        have h1 := (x_le L _ _ _ _ _ hx).1.place
        have h3 : (nameS L s.on).on.p = (nameS L s.on).p + 1 := rfl
        exact ((ih' x.2 (isP_lt hi) (by omega)).2.2 tDo lv).map _
      · exact ((ih' (nameS L s.on) (isP_lt hi) (by omega)).2.2 tDo lv).map _
    refine Tot.ite (fun hi => (items_ans L _).map _) (fun _ => ?_)
    refine Tot.ite (fun hi => (items_ans L _).map _) (fun _ => ?_)
    refine Tot.ite (fun hi => ?_) (fun _ => ?_)
    · exact Tot.ite (fun hw => (x_ans L _ (.index lv) trivial).map _) (fun _ => Tot.pure _)
    exact Tot.ite (fun hi => (row_ans L _ lv).map _) (fun _ => Tot.pure _)
  have tL : ∀ lv acc again, Tot fun n => stmtsL B L n lv acc again s := fun lv acc again => by
    refine Tot.succ ?_ (fun n => by rw [stmtsL])
    refine Tot.ite (fun _ => ?_) (fun _ => Tot.pure _)
    refine (tS lv).bind fun n q hq => ?_
    by_cases hi : isP L q.2 tSemi = true
    · have h1 := isP_lt hi
      have h2 := ((st_le hB n).1 _ _ _ _ hq).le.place
      exact (ih' (takeS L q.2 tSemi) (by omega) (by rw [take_on hi]; omega)).2.1 lv _ _
    · exact Tot.succ (Tot.pure _) (fun n => by rw [stmtsL, if_neg (fun h => hi h.1)])
  refine ⟨tS, tL, fun o lv => ?_⟩
  refine Tot.succ ?_ (fun n => by rw [blockP])
  refine Tot.ite (fun _ => Tot.pure _) (fun hi => ?_)
  refine Tot.ite (fun _ => Tot.pure _) (fun _ => ?_)
  exact (ih' _ (isP_lt (x := o) (by simpa using hi)) (by show s.p < (opensS L s (lv + 1)).p + 1; rw [opensS_p]; omega)).2.1 _ _ _
theorem stmts_ans {B : BrP} {L : List Tk} (hB : BLt B L) (hT : BTot B L) (lv : Int) (s : PS) : Tot fun n => stmtsL B L n lv [] true s := (st_tot hB hT _ s (Nat.le_refl _)).2.1 lv [] true
theorem kindP_lt {L : List Tk} {s : PS} (h : kindP L s ≠ 0) : s.p < L.length := by
  unfold kindP at h
  split at h
  · rename_i hi; exact isP_lt hi
  · split at h
    · rename_i hi; exact isP_lt hi
    · split at h
      · rename_i hi; exact isP_lt hi
      · split at h
        · rename_i hi; exact isP_lt hi
        · exact absurd rfl h
theorem declsL_tot (L : List Tk) : ∀ M s acc, L.length - s.p ≤ M → Tot fun n => declsL L n acc s := by
  intro M
  induction M using Nat.strongRecOn with
  | _ M ih =>
  intro s acc hM
  refine Tot.succ ?_ (fun n => by rw [declsL])
  refine Tot.ite (fun _ => ?_) (fun _ => Tot.pure _)
  refine Tot.ite (fun _ => Tot.pure _) (fun hk => ?_)
  have h1 := kindP_lt hk
  have h2 := (dclS_lt L (kindP L s) s.on).place
  have h3 : s.on.p = s.p + 1 := rfl
  exact ih (L.length - (dclS L (kindP L s) s.on).p) (by omega) _ _ (Nat.le_refl _)
theorem procP_tot {B : BrP} {L : List Tk} (hB : BLt B L) (hT : BTot B L) (s : PS) : Tot fun n => procP B L n s := by
  unfold procP
  refine Tot.bind ?_ fun n a _ => ?_
  · unfold paramsP
    exact Tot.ite (fun _ => Tot.pure _) (fun _ => identsL_tot L _ _ _ _ (Nat.le_refl _))
  refine (varsL_tot L _ _ _ (Nat.le_refl _)).bind fun n b _ => ?_
  exact (stmts_ans hB hT 1 _).map _
theorem procsL_tot {B : BrP} {L : List Tk} (hB : BLt B L) (hT : BTot B L) : ∀ M s acc, L.length - s.p ≤ M → Tot fun n => procsL B L n acc s := by
  intro M
  induction M using Nat.strongRecOn with
  | _ M ih =>
  intro s acc hM
  refine Tot.succ ?_ (fun n => by rw [procsL])
  refine Tot.ite (fun hi => ?_) (fun _ => Tot.pure _)
  refine (procP_tot hB hT s.on).bind fun n q hq => ?_
  have h1 := isP_lt hi
  have h2 := (procP_lt hB (show procP B L n s.on = some (q.1, q.2) from hq)).le.place
  have h3 : s.on.p = s.p + 1 := rfl
  exact ih (L.length - q.2.p) (by omega) _ _ (Nat.le_refl _)
theorem srcP_tot {B : BrP} {L : List Tk} (hB : BLt B L) (hT : BTot B L) : Tot fun n => srcP B L n := by
  unfold srcP
  refine (declsL_tot L _ _ _ (Nat.le_refl _)).bind fun n d _ => ?_
  refine (procsL_tot hB hT _ _ _ (Nat.le_refl _)).bind fun n p _ => ?_
  refine Tot.bind ?_ fun n c _ => (stmts_ans hB hT 1 _).map _
  unfold claimsP
  exact Tot.ite (fun _ => (items_ans L _).map _) (fun _ => Tot.pure _)

theorem branP_BLt (L : List Tk) : BLt branP L := fun n lv s b s' h => branP_lt h
theorem branP_BTot (L : List Tk) : BTot branP L := fun lv s => branP_tot L lv s
theorem parse_ans (src : List UInt8) : ∃ n r, parseP branP src n = some r := by
  obtain ⟨q, hq⟩ := lex_ans src (src.length + 1) 0 [] (Nat.zero_le _) (by omega)
  unfold parseP
  rw [hq]
  cases q with
  | inr f => exact ⟨0, _, rfl⟩
  | inl L => obtain ⟨n, r, h⟩ := (srcP_tot (branP_BLt L) (branP_BTot L)).some; exact ⟨n, r, h⟩
end Go.Vm.Parse
