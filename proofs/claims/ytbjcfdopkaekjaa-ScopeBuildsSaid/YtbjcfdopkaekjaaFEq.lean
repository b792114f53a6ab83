/- What is proved: structs of whole numbers and strings, compared. -/
import Derived.Test.YtbjcfdopkaekjaaVmTab
namespace Go.Vm
open Go Go.Proofs
set_option maxRecDepth 100000
variable {P : Program}
theorem equal_int {t : TypeId} {k : IntKind} {sg} (h : P.underlying t = some (.int sg)) (d : Nat) (a c : Int) : pureRun P (Op.equalIn (d + 1) t (.int k a) (.int k c)) = some (a == c) := by
  unfold Op.equalIn
  rw [pureRun_bind _ _ _ (pureRun_underlying h)]
  simp
theorem equal_string {t : TypeId} (h : P.underlying t = some .string) (d : Nat) (a c : ByteArray) : pureRun P (Op.equalIn (d + 1) t (.string a) (.string c)) = some (a == c) := by
  unfold Op.equalIn
  rw [pureRun_bind _ _ _ (pureRun_underlying h)]
  rfl
theorem part_one {t : TypeId} {cs : Array Value} {off : Nat} {v : Value} {d : TypeDesc} (h : P.underlying t = some d) (hd : (match d with | .struct _ | .array _ _ => true | _ => false) = false) (hv : cs[off]? = some v) : pureRun P (part t cs off) = some v := by
  unfold part
  have e : pureRun P (isAgg t) = some false := by
    unfold isAgg
    rw [pureRun_bind _ _ _ (pureRun_underlying h)]
    cases d <;> first | rfl | cases hd
  rw [pureRun_bind _ _ _ e]
  simp [hv]
/-- Two cells of a kind, compared. -/
def cellEq (d : Option TypeDesc) : Option Value → Option Value → Option Bool
  | some (.int k a), some (.int k' b) => match d with | some (.int _) => if k = k' then some (decide (a = b)) else none | _ => none
  | some (.string a), some (.string b) => match d with | some .string => some (decide (a = b)) | _ => none
  | _, _ => none
def fieldsEq (P : Program) (xs ys : List Value) : List Field → Option Bool
  | [] => some true
  | f :: fs => if f.name ≠ "_" then (match cellEq (P.underlying f.type) xs[f.offset]? ys[f.offset]? with
    | some true => fieldsEq P xs ys fs
    | some false => some false
    | none => none) else fieldsEq P xs ys fs
theorem cell_eq {t : TypeId} {xs ys : Array Value} {off : Nat} {r : Bool} (h : cellEq (P.underlying t) xs[off]? ys[off]? = some r) (d : Nat) :
    ∃ v u, pureRun P (part t xs off) = some v ∧ pureRun P (part t ys off) = some u ∧ pureRun P (Op.equalIn (d + 1) t v u) = some r := by
  unfold cellEq at h
  split at h
  · rename_i k a k' b h1 h2
    split at h
    · rename_i d1 s hu
      split at h
      · rename_i hk
        subst hk
        cases h
        refine ⟨_, _, part_one hu rfl h1, part_one hu rfl h2, ?_⟩
        rw [equal_int hu]
        rfl
      · cases h
    · cases h
  · rename_i a b h1 h2
    split at h
    · rename_i hu
      cases h
      refine ⟨_, _, part_one hu rfl h1, part_one hu rfl h2, ?_⟩
      rw [equal_string hu]
      congr 1
      obtain ⟨x⟩ := a
      obtain ⟨y⟩ := b
      show (x == y) = _
      by_cases h : x = y
      · subst h; simp
      · rw [decide_eq_false (fun e => h (by cases e; rfl))]
        simpa using h
    · cases h
  · cases h
theorem loop_eq {xs ys : Array Value} {d : Nat} : ∀ {fs : List Field} {r : Bool}, fieldsEq P xs.toList ys.toList fs = some r → 
    pureRun P (forIn fs ((none, ()) : Option Bool × Unit) fun f __s =>
            if f.name ≠ "_" then do
              let __do_lift ← part f.type xs f.offset
              let __do_lift_1 ← part f.type ys f.offset
              let __do_lift ← Op.equalIn (d + 1) f.type __do_lift __do_lift_1
              if (!__do_lift) = true then pure (ForInStep.done (some false, ())) else pure (ForInStep.yield (none, ()))
            else pure (ForInStep.yield (none, ()))) = some (if r = true then (none, ()) else (some false, ()))
  | [], r, h => by
    cases h
    rfl
  | f :: fs, r, h => by
    rw [List.forIn_cons]
    simp only [fieldsEq] at h
    split at h
    · rename_i hn
      rw [if_pos hn]
      split at h
      · rename_i hc
        simp only [Array.getElem?_toList] at hc
        obtain ⟨v, u, h1, h2, h3⟩ := cell_eq hc d
        rw [pureRun_bind (a := ForInStep.yield (none, ()))]
        · exact loop_eq h
        · rw [pureRun_bind _ _ _ h1, pureRun_bind _ _ _ h2, pureRun_bind _ _ _ h3]; rfl
      · rename_i hc
        simp only [Array.getElem?_toList] at hc
        cases h
        obtain ⟨v, u, h1, h2, h3⟩ := cell_eq hc d
        rw [pureRun_bind (a := ForInStep.done (some false, ()))]
        · rfl
        · rw [pureRun_bind _ _ _ h1, pureRun_bind _ _ _ h2, pureRun_bind _ _ _ h3]; rfl
      · cases h
    · rename_i hn
      rw [if_neg hn]
      rw [pureRun_bind (a := ForInStep.yield (none, ())) _ _ rfl]
      exact loop_eq h
theorem equal_struct {t : TypeId} {fs : List Field} (h : P.underlying t = some (.struct ⟨fs⟩)) (hs : P.stoodInHeld t = false) {xs ys : Array Value} {r : Bool} (he : fieldsEq P xs.toList ys.toList fs = some r) : pureRun P (Op.equal t (.agg xs) (.agg ys)) = some r := by
  unfold Op.equal
  show pureRun P (Op.equalIn (9998 + 1 + 1) t (.agg xs) (.agg ys)) = _
  unfold Op.equalIn
  rw [pureRun_bind _ _ _ (pureRun_underlying h)]
  simp only []
  rw [pureRun_bind (a := P) _ _ rfl]
  rw [if_neg (by rw [hs]; simp)]
  rw [List.forIn_toArray, pureRun_bind _ _ _ (loop_eq he)]
  cases r <;> rfl
theorem bin_struct {t : TypeId} {x y : Operand} {fs : List Field} (h : P.underlying t = some (.struct ⟨fs⟩)) (hs : P.stoodInHeld t = false) (hg : P.eqGuardType P.depth t = false) {xs ys : List Value} {r : Bool} (hx : ground (.agg ⟨xs⟩) = true) (hy : ground (.agg ⟨ys⟩) = true)
    (he : fieldsEq P xs ys fs = some r) : exBin P .eql t x y (.agg ⟨xs⟩) (.agg ⟨ys⟩) = some (.bool r) ∧ exBin P .neq t x y (.agg ⟨xs⟩) (.agg ⟨ys⟩) = some (.bool (!r)) := by
  have e := equal_struct h hs (xs := ⟨xs⟩) (ys := ⟨ys⟩) he
  have g : ∀ op, pureRun P (eqGuard op t x y (.agg ⟨xs⟩) (.agg ⟨ys⟩)) = some () := fun op => by
    unfold eqGuard
    cases op <;> first | rfl | (simp only []; simp; rw [pureRun_bind (a := P) _ _ rfl, pureRun_bind (a := P) _ _ rfl, if_pos hg]; rfl)
  constructor
  · simp only [exBin, hx, hy, Bool.and_self]
    rw [pureRun_bind _ _ _ (g .eql)]
    show ifGround (pureRun P (do pure (.bool (← Op.equal t (.agg ⟨xs⟩) (.agg ⟨ys⟩))))) = _
    rw [pureRun_bind _ _ _ e]
    rfl
  · simp only [exBin, hx, hy, Bool.and_self]
    rw [pureRun_bind _ _ _ (g .neq)]
    show ifGround (pureRun P (do pure (.bool (!(← Op.equal t (.agg ⟨xs⟩) (.agg ⟨ys⟩)))))) = _
    rw [pureRun_bind _ _ _ e]
    rfl
end Go.Vm
namespace Go.Vm.Parse
open Go Go.Proofs
set_option maxRecDepth 100000
noncomputable def fsOf (t : TypeId) : List Field := match Try.prog.underlying t with | some (.struct ⟨fs⟩) => fs | _ => []
theorem und_fault : Try.prog.underlying 32 = some (.struct ⟨fsOf 32⟩) := by kernel_rfl
theorem held_fault : Try.prog.stoodInHeld 32 = false := by kernel_rfl
theorem gt_fault : Try.prog.eqGuardType Try.prog.depth 32 = false := by kernel_rfl
theorem fe_fault (a b c d : Int) : fieldsEq Try.prog [.int .i64 a, .int .i64 b] [.int .i64 c, .int .i64 d] (fsOf 32) = some (decide (a = c) && decide (b = d)) := by
  have e : fieldsEq Try.prog [.int .i64 a, .int .i64 b] [.int .i64 c, .int .i64 d] (fsOf 32) = (match some (decide (a = c)) with | some true => (match some (decide (b = d)) with | some true => some true | some false => some false | none => none) | some false => some false | none => none) := by kernel_rfl
  rw [e]
  cases decide (a = c) <;> cases decide (b = d) <;> rfl
theorem fault_eql (x y : Operand) (a b c d : Int) : exBin Try.prog .eql 32 x y (.agg ⟨[.int .i64 a, .int .i64 b]⟩) (.agg ⟨[.int .i64 c, .int .i64 d]⟩) = some (.bool (decide (a = c) && decide (b = d))) :=
  (bin_struct und_fault held_fault gt_fault rfl rfl (fe_fault a b c d)).1
theorem fault_neq (x y : Operand) (a b c d : Int) : exBin Try.prog .neq 32 x y (.agg ⟨[.int .i64 a, .int .i64 b]⟩) (.agg ⟨[.int .i64 c, .int .i64 d]⟩) = some (.bool (!(decide (a = c) && decide (b = d)))) :=
  (bin_struct und_fault held_fault gt_fault rfl rfl (fe_fault a b c d)).2
end Go.Vm.Parse
