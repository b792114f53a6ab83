/- What is defined and proved: the reference's 'Build', in plain words; its walk. -/
import Derived.Test.YtbjcfdopkaekjaaRef1
namespace Go.Vm.Scope
open Go Go.Proofs Go.Vm.Parse
set_option maxRecDepth 100000
set_option maxHeartbeats 4000000
set_option linter.unusedSimpArgs false
set_option linter.unusedVariables false
attribute [local simp] repCells_succ writeAt rd_Fr toList_beq gpe gpn spe gse gsn ne_r0 ne_l0 le_s0 ne_r1 ne_l1 lt_s1 le_s1 ne_r2 ne_l2 lt_s2 le_s2 ne_r3 ne_l3 lt_s3 le_s3 ne_r4 ne_l4 lt_s4 le_s4 ne_r5 ne_l5 lt_s5 le_s5 ne_r6 ne_l6 lt_s6 le_s6 ne_r7 ne_l7 lt_s7 le_s7
/-- How many declarations of a class there are. -/
def cntP (k : Int) : List Nm → Nat
  | [] => 0
  | m :: l => (if clsP m.kind = clsP k then 1 else 0) + cntP k l
theorem cntP_snoc (k : Int) (m : Nm) : ∀ l : List Nm, cntP k (l ++ [m]) = cntP k l + (if clsP m.kind = clsP k then 1 else 0)
  | [] => by simp [cntP]
  | a :: l => by simp only [List.cons_append, cntP, cntP_snoc k m l]; omega
theorem cntP_le (k : Int) : ∀ l : List Nm, cntP k l ≤ l.length
  | [] => Nat.le_refl _
  | a :: l => by have := cntP_le k l; simp only [cntP, List.length_cons]; split <;> omega
def manyP (R : RT) (d : Dcl) : Prop := (d.kind = 1 ∧ 6 ≤ cntP d.kind R.means) ∨ (d.kind = 2 ∧ 8 ≤ cntP d.kind R.means) ∨ (clsP d.kind = 3 ∧ 16 ≤ cntP d.kind R.means)
def unitsB (d : Dcl) : Prop := (d.kind = 1 ∧ (d.n < 1 ∨ 1000 < d.n)) ∨ (d.kind = 2 ∧ (d.n < 0 ∨ 1000 < d.n))
instance (R : RT) (d : Dcl) : Decidable (manyP R d) := by unfold manyP; infer_instance
instance (d : Dcl) : Decidable (unitsB d) := by unfold unitsB; infer_instance
def rdclT (R : RT) (d : Dcl) : RT := { R with names := R.names ++ [d.name], means := R.means ++ [⟨d.kind, cntP d.kind R.means, if clsP d.kind = 3 then d.n else 0⟩], values := R.values ++ [d.n] }
def rdclB (R : RT) (d : Dcl) : Except (Int × Int) RT :=
  if hasP R.names d.name = true then .error (17, d.at_) else if manyP R d then .error (16, d.at_) else if unitsB d then .error (24, d.at_) else .ok (rdclT R d)
def rdeclsB (R : RT) : List Dcl → Except (Int × Int) RT
  | [] => .ok R
  | d :: l => match rdclB R d with
    | .error e => .error e
    | .ok R' => rdeclsB R' l
def rlocB (np : Nat) : List ByteArray → Nat → List Idn → Except (Int × Int) (List ByteArray)
  | acc, _, [] => .ok acc
  | acc, i, x :: xs => if hasP acc x.name = true then .error (17, x.at_) else if (i < np ∧ 4 ≤ i) ∨ 8 ≤ i then .error (16, x.at_) else rlocB np (acc ++ [x.name]) (i + 1) xs
def rprcT (R : RT) (p : Prc) (l : List ByteArray) : RT := { R with procs := R.procs ++ [p.name], heads := R.heads ++ [(p.params.length : Int)], locals := R.locals ++ [l] }
def rprcB (R : RT) (p : Prc) : Except (Int × Int) RT :=
  if hasP R.names p.name = true ∨ hasP R.procs p.name = true then .error (17, p.at_) else if 12 ≤ R.procs.length then .error (16, p.at_)
  else match rlocB p.params.length [] 0 (p.params ++ p.vars) with
    | .error e => .error e
    | .ok l => .ok (rprcT R p l)
def rprocsB (R : RT) : List Prc → Except (Int × Int) RT
  | [] => .ok R
  | p :: l => match rprcB R p with
    | .error e => .error e
    | .ok R' => rprocsB R' l
def rt0 : RT := ⟨[], [], [], [], [], []⟩
def rbuildB (s : Src) : Except (Int × Int) RT := match rdeclsB rt0 s.decls with
  | .error e => .error e
  | .ok R => rprocsB R s.procs
def RetRB (H : Heap) (res : Except (Int × Int) RT) (o : Out) (H' : Heap) : Prop :=
  Same (fun _ => False) H H' ∧ match res with
  | .error (c, a) => o = .val (.tuple #[.pointer none, .agg ⟨[.int .i64 c, .int .i64 a]⟩])
  | .ok R => ∃ (col : Nat → Nat) (tid : Nat) (v1 v2 v3 v4 v5 v6 : Value), o = .val (.tuple #[.pointer (some ⟨tid, 0, none⟩), .agg ⟨[.int .i64 0, .int .i64 0]⟩]) ∧ RRef H' col tid v1 v2 v3 v4 v5 v6 R ∧ (∀ i, i < H.n → col i = 0)
/-- Where Build stands, with its table. -/
structure RAt (H K : Heap) (sc : List Value) (col : Nat → Nat) (T : RT) (nd np : Nat) : Prop where
  same : Same (fun _ => False) H K
  box : K.get H.n = .row true 0 1 sc
  res : K.get (H.n + 1) = .row true 0 1 [.int .i64 0, .int .i64 0]
  tab : ∃ v1 v2 v3 v4 v5 v6, RRef K col (H.n + 2) v1 v2 v3 v4 v5 v6 T ∧ (nd = 0 → v1 = nl ∧ v2 = nl ∧ v6 = nl) ∧ (np = 0 → v3 = nl ∧ v4 = nl ∧ v5 = nl)
  zero : ∀ i, i ≤ H.n + 1 → col i = 0
  n1 : T.names.length = nd
  n2 : T.means.length = nd
  n6 : T.values.length = nd
  n3 : T.procs.length = np
  n4 : T.heads.length = np
  n5 : T.locals.length = np
theorem RAt.keep {H K K' : Heap} {sc : List Value} {col : Nat → Nat} {T : RT} {nd np : Nat} {X : Nat → Prop} (h : RAt H K sc col T nd np) (k : Same X K K') (hx : ∀ i, X i → col i = 0 ∧ H.n + 1 < i) : RAt H K' sc col T nd np := by
  obtain ⟨v1, v2, v3, v4, v5, v6, ht, hz⟩ := h.tab
  exact ⟨h.same.then k (fun i hi => .inr (by have := (hx i hi).2; omega)), k.at h.box (by simp) (fun e => by have := (hx _ e).2; omega), k.at h.res (by simp) (fun e => by have := (hx _ e).2; omega), ⟨_, _, _, _, _, _, ht.keep k (fun i hi => (hx i hi).1), hz⟩, h.zero, h.n1, h.n2, h.n6, h.n3, h.n4, h.n5⟩
theorem tf_str : TF Try.prog 111 1 := ⟨_, _, _, by simp, by simp, by simp; rfl, by omega, by simp; rfl, rfl, by omega, rfl⟩
theorem tf_nms : TF Try.prog 112 3 := ⟨_, _, _, by simp, by simp, by simp; rfl, by omega, by simp; rfl, rfl, by omega, rfl⟩
theorem tf_strs : TF Try.prog 113 1 := ⟨_, _, _, by simp, by simp, by simp; rfl, by omega, by simp; rfl, rfl, by omega, rfl⟩
theorem q_rb0 : quiet Try.prog (drawN Try.f15 0) = true := by decide +kernel
theorem pl_rb1 : planOf Try.prog (drawN Try.f15 1) = some [none, none, none, none, none, none, none, none, none, (some (0, 1)), (some (0, 1)), none, none] := by decide +kernel
theorem no_rb2 : planOf Try.prog (drawN Try.f15 2) = none := by decide +kernel
theorem la_rb2 : lateAt (drawN Try.f15 2) = none := by decide +kernel
def pre_rb2 : List Nat := [0, 0, 0, 0, 8, 24, 56, 0, 128, 384, 1016, 0, 2048, 6144, 14336, 0, 32768, 131064, 0, 262144, 786432, 1835008, 0, 4194304, 12582912, 33554424, 67108857, 134217721, 268435449, 536870907, 1073741819, 2147483643, 4294967295, 8589934591, 17179869183]
theorem pr_rb2 : preOf (drawN Try.f15 2) = pre_rb2 := by decide +kernel
theorem ok_rb2 : freeOK (drawN Try.f15 2) pre_rb2 = true := by decide +kernel
theorem ne_rb2 : needAll (drawN Try.f15 2) = 6 := by decide +kernel
theorem q_rb3 : quiet Try.prog (drawN Try.f15 3) = true := by decide +kernel
theorem no_rb4 : planOf Try.prog (drawN Try.f15 4) = none := by decide +kernel
theorem la_rb4 : lateAt (drawN Try.f15 4) = none := by decide +kernel
def pre_rb4 : List Nat := [0, 0, 0, 0, 8, 24, 56, 0, 128, 384, 1016, 0, 2048, 6144, 14336, 0, 32768, 98304, 229376, 524280, 0, 1048576, 3145728, 7340032, 0, 16777216, 67108856, 134217721, 268435449, 536870905, 1073741819, 2147483643, 4294967291, 8589934591, 17179869183, 34359738367]
theorem pr_rb4 : preOf (drawN Try.f15 4) = pre_rb4 := by decide +kernel
theorem ok_rb4 : freeOK (drawN Try.f15 4) pre_rb4 = true := by decide +kernel
theorem ne_rb4 : needAll (drawN Try.f15 4) = 6 := by decide +kernel
end Go.Vm.Scope
