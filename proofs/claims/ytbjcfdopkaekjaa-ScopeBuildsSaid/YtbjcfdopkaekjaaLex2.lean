/- What is proved: what an append of one element does with a list of wide elements; no theorem of the program. What is defined and proved: a reader of bytes, in plain words; its small steps. What is defined and proved: the reader of bytes, in plain words; its walk. -/
import Derived.Test.YtbjcfdopkaekjaaVmN
import Derived.Test.YtbjcfdopkaekjaaParse4
namespace Go.Vm
open Go.RowKit
set_option linter.unusedSimpArgs false
set_option linter.unusedVariables false
attribute [local simp] gpe gpn spe gse gsn ne_r0 ne_l0 le_s0 ne_r1 ne_l1 lt_s1 le_s1 ne_r2 ne_l2 lt_s2 le_s2 ne_r3 ne_l3 lt_s3 le_s3 ne_r4 ne_l4 lt_s4 le_s4 ne_r5 ne_l5 lt_s5 le_s5 ne_r6 ne_l6 lt_s6 le_s6 ne_r7 ne_l7 lt_s7 le_s7
variable {P : Program}
/-- A slice type whose elements have k cells. -/
structure TF (P : Program) (t : TypeId) (k : Nat) : Prop where
  ok : ∃ e b z, elemT P t = some e ∧ sizeT P e = some k ∧ bytesT P e = some b ∧ b ≤ 1000 ∧ zeroT P e = some z ∧ z.cells.toList.length = k ∧ k ≠ 0 ∧ P.underlying t = some (.slice e)
theorem app_one {t k : Nat} (T : TF P t k) {H : Heap} {id tl n xid xt xe xc : Nat} {xo : Bool} {cs c : List Value} (hg : H.get id = .row true tl k cs) (hl : cs.length = n * k) (htl : tl ≤ 1) (hc : c.length = k) (hx : H.get xid = .row xo xt xe c) (hn : n ≤ 100000) :
    ∃ H', exAppend P [t, t] (.slice (some ⟨id, 0, none⟩) n n) (.slice (some ⟨xid, 0, none⟩) 1 xc) H = some (.slice (some ⟨H.n, 0, none⟩) (n + 1) (n + 1), H') ∧ H'.get H.n = .row true 1 k (cs ++ c) ∧ H'.n = H.n + 1 ∧ Same (fun i => i = id) H H' := by
  obtain ⟨e, b, z, h1, h2, h3, h4, h5, h6, h7, h8⟩ := T.ok
  have hb : (n + 1 + 200) * b ≤ 140737488355328 := by
    have : (n + 1 + 200) * b ≤ (100000 + 1 + 200) * 1000 := Nat.mul_le_mul (by omega) h4
    omega
  have hid := Heap.lt_of_get hg (by simp)
  have htk : (cs.drop 0).take (n * k) = cs := by rw [List.drop_zero]; exact List.take_of_length_le (by omega)
  have hc0 : cellsOf H k 1 (.slice (some ⟨xid, 0, none⟩) 1 xc) = some c := by
    simp [hx, hc]
    exact List.take_of_length_le (by omega)
  have hne : ¬ n + 1 ≤ n := by omega
  rcases (show tl = 0 ∨ tl = 1 by omega) with rfl | rfl
  · refine ⟨H.push (.row true 1 k (cs ++ c)), ?_, Heap.get_push_self _ _, rfl, Same.push _ _ _⟩
    simp only [exAppend, h1, h8, exAppendRow, h2, h3, h5, lenA, hc0, hg]
    simp [h7, h6, hb, show n + 1 ≤ 140737488355328 by omega, hne, hl]
    rw [← hl, List.take_length]
  · refine ⟨(H.set id .dead).push (.row true 1 k (cs ++ c)), ?_, ?_, rfl, (Same.set (X := fun i => i = id) H hid rfl _).trans (Same.push _ _ _)⟩
    · simp only [exAppend, h1, h8, exAppendRow, h2, h3, h5, lenA, hc0, hg]
      simp [h7, h6, hb, show n + 1 ≤ 140737488355328 by omega, hne, hl]
      rw [← hl, List.take_length]
    · exact Heap.get_push_self (H.set id .dead) _
theorem app_nil {t k : Nat} (T : TF P t k) {H : Heap} {xid xt xe xc : Nat} {xo : Bool} {c : List Value} (hc : c.length = k) (hx : H.get xid = .row xo xt xe c) :
    exAppend P [t, t] (.slice none 0 0) (.slice (some ⟨xid, 0, none⟩) 1 xc) H = some (.slice (some ⟨H.n, 0, none⟩) 1 1, H.push (.row true 1 k c)) := by
  obtain ⟨e, b, z, h1, h2, h3, h4, h5, h6, h7, h8⟩ := T.ok
  have hb : (0 + 1 + 200) * b ≤ 140737488355328 := by
    have : (0 + 1 + 200) * b ≤ (0 + 1 + 200) * 1000 := Nat.mul_le_mul (by omega) h4
    omega
  have hc0 : cellsOf H k 1 (.slice (some ⟨xid, 0, none⟩) 1 xc) = some c := by
    simp [hx, hc]
    exact List.take_of_length_le (by omega)
  simp only [exAppend, h1, h8, exAppendRow, h2, h3, h5, lenA, hc0]
  simp [h7, h6]
  omega
end Go.Vm
namespace Go.Vm
variable {P : Program}
def idxA (P : Program) (ty : TypeId) (a b : Option Value) (H : Heap) : Option (Out × Heap) := match a, b with
  | some (.agg cs), some (.int _ i) => match P.underlying ty with
    | some (.array len e) => match sizeT P e with
      | some n => if 0 ≤ i ∧ i < len then val1 (partA P e cs.toList (i.toNat * n)) H else none
      | none => none
    | _ => none
  | some (.string s), some (.int k i) => val1 (ifGround (pureRun P (Instr.index ty (.string s) (.int k i)))) H
  | _, _ => none
theorem op_index (call : CallA) (ty : TypeId) (x i : Operand) (t : List Value) (H : Heap) : exOp P call (.index ty x i) t H = idxA P ty (evA t x) (evA t i) H := by
  simp only [exOp]; rfl
theorem idxA_str (ty : TypeId) (s : ByteArray) (k : IntKind) (i : Int) (H : Heap) : idxA P ty (some (.string s)) (some (.int k i)) H = val1 (ifGround (pureRun P (Instr.index ty (.string s) (.int k i)))) H := id rfl
end Go.Vm
namespace Go.Vm.Parse
open Go Go.Proofs
set_option maxRecDepth 100000
set_option maxHeartbeats 1000000
set_option linter.unusedSimpArgs false
set_option linter.unusedVariables false
attribute [local simp] repCells_succ writeAt rd_Fr toList_beq gpe gpn spe gse gsn ne_r0 ne_l0 le_s0 ne_r1 ne_l1 lt_s1 le_s1 ne_r2 ne_l2 lt_s2 le_s2 ne_r3 ne_l3 lt_s3 le_s3 ne_r4 ne_l4 lt_s4 le_s4 ne_r5 ne_l5 lt_s5 le_s5 ne_r6 ne_l6 lt_s6 le_s6 ne_r7 ne_l7 lt_s7 le_s7
def letterB (b : UInt8) : Bool := decide (97 ≤ b.toNat ∧ b.toNat ≤ 122)
def digitB (b : UInt8) : Bool := decide (48 ≤ b.toNat ∧ b.toNat ≤ 57)
def wordsL : List ByteArray := [⟨#[112, 114, 111, 103, 114, 97, 109]⟩, ⟨#[114, 101, 115, 111, 117, 114, 99, 101]⟩, ⟨#[115, 101, 109, 97, 112, 104, 111, 114, 101]⟩, ⟨#[115, 104, 97, 114, 101, 100]⟩, ⟨#[118, 97, 114]⟩, ⟨#[112, 114, 111, 99, 101, 100, 117, 114, 101]⟩, ⟨#[99, 108, 97, 105, 109, 115]⟩, ⟨#[98, 101, 103, 105, 110]⟩, ⟨#[101, 110, 100]⟩, ⟨#[105, 102]⟩, ⟨#[116, 104, 101, 110]⟩, ⟨#[101, 108, 115, 101]⟩, ⟨#[102, 105]⟩, ⟨#[119, 104, 105, 108, 101]⟩, ⟨#[100, 111]⟩, ⟨#[111, 100]⟩, ⟨#[99, 111, 98, 101, 103, 105, 110]⟩, ⟨#[99, 111, 101, 110, 100]⟩, ⟨#[114, 101, 103, 105, 111, 110]⟩, ⟨#[119, 104, 101, 110]⟩, ⟨#[114, 101, 113, 117, 101, 115, 116]⟩, ⟨#[114, 101, 108, 101, 97, 115, 101]⟩, ⟨#[119, 114, 105, 116, 101]⟩, ⟨#[114, 101, 97, 100]⟩, ⟨#[115, 107, 105, 112]⟩, ⟨#[116, 114, 117, 101]⟩, ⟨#[102, 97, 108, 115, 101]⟩, ⟨#[97, 110, 100]⟩, ⟨#[111, 114]⟩, ⟨#[110, 111, 116]⟩, ⟨#[80]⟩, ⟨#[86]⟩]
def isWord (x : ByteArray) : Bool := wordsL.any fun w => decide (w = x)
theorem b_words : exBuild Try.prog 160 [(0, Value.string { data := #[112, 114, 111, 103, 114, 97, 109] }), (1, Value.string { data := #[114, 101, 115, 111, 117, 114, 99, 101] }), (2, Value.string { data := #[115, 101, 109, 97, 112, 104, 111, 114, 101] }), (3, Value.string { data := #[115, 104, 97, 114, 101, 100] }), (4, Value.string { data := #[118, 97, 114] }), (5, Value.string { data := #[112, 114, 111, 99, 101, 100, 117, 114, 101] }), (6, Value.string { data := #[99, 108, 97, 105, 109, 115] }), (7, Value.string { data := #[98, 101, 103, 105, 110] }), (8, Value.string { data := #[101, 110, 100] }), (9, Value.string { data := #[105, 102] }), (10, Value.string { data := #[116, 104, 101, 110] }), (11, Value.string { data := #[101, 108, 115, 101] }), (12, Value.string { data := #[102, 105] }), (13, Value.string { data := #[119, 104, 105, 108, 101] }), (14, Value.string { data := #[100, 111] }), (15, Value.string { data := #[111, 100] }), (16, Value.string { data := #[99, 111, 98, 101, 103, 105, 110] }), (17, Value.string { data := #[99, 111, 101, 110, 100] }), (18, Value.string { data := #[114, 101, 103, 105, 111, 110] }), (19, Value.string { data := #[119, 104, 101, 110] }), (20, Value.string { data := #[114, 101, 113, 117, 101, 115, 116] }), (21, Value.string { data := #[114, 101, 108, 101, 97, 115, 101] }), (22, Value.string { data := #[119, 114, 105, 116, 101] }), (23, Value.string { data := #[114, 101, 97, 100] }), (24, Value.string { data := #[115, 107, 105, 112] }), (25, Value.string { data := #[116, 114, 117, 101] }), (26, Value.string { data := #[102, 97, 108, 115, 101] }), (27, Value.string { data := #[97, 110, 100] }), (28, Value.string { data := #[111, 114] }), (29, Value.string { data := #[110, 111, 116] }), (30, Value.string { data := #[80] }), (31, Value.string { data := #[86] })] = some (.agg ⟨wordsL.map fun x => .string x⟩) := by kernel_rfl
/-- The value of digits; none: it is too great. -/
def numFrom : List UInt8 → Int → Option Int
  | [], n => some n
  | b :: bs, n => if (9223372036854775807 - ((b.toNat : Int) - 48)) / 10 < n then none else numFrom bs (10 * n + ((b.toNat : Int) - 48))
def oneL : List UInt8 := [59, 44, 40, 41, 91, 93, 43, 45, 42, 47, 37, 61, 60, 62, 46]
def oneS (b : UInt8) : Bool := oneL.any fun c => decide (c = b)
def twoS (x : ByteArray) : Bool := decide (x = ⟨#[58, 61]⟩) || (decide (x = ⟨#[60, 62]⟩) || (decide (x = ⟨#[60, 61]⟩) || (decide (x = ⟨#[62, 61]⟩) || decide (x = ⟨#[47, 47]⟩))))
/-- How many bytes the longest sign has that begins here. -/
def signP : List UInt8 → Nat
  | [] => 0
  | [a] => if oneS a = true then 1 else 0
  | a :: b :: _ => if twoS ⟨#[a, b]⟩ = true then 2 else if oneS a = true then 1 else 0
def NumI (l : List UInt8) (H : Heap) (m : Nat) (t : List Value) (H' : Heap) : Prop :=
  ∃ i : Nat, ∃ n : Int, i + m = l.length ∧ rd t 5 = .int .i64 i ∧ rd t 4 = .int .i64 n ∧ 0 ≤ n ∧ n ≤ 9223372036854775807 ∧ H' = H ∧ numFrom l 0 = numFrom (l.drop i) n
def byteC (b : UInt8) : Value := .int .u8 (b.toNat : Int)
/-- A slice of bytes. -/
def BS (H : Heap) (sid off cap : Nat) (l : List UInt8) : Prop := ∃ own tl es cs, H.get sid = .row own tl es cs ∧ off + l.length ≤ cs.length ∧ l.length ≤ cap ∧ (cs.drop off).take l.length = l.map byteC
section
variable {E : Hooks} (hE : Plain E)
include hE
theorem letter_run (b : UInt8) (H : Heap) : (run Try.prog E).call 69 [byteC b] H = some (.val (.bool (letterB b)), H) := by
  have key : Gives ((run Try.prog E).call 69 [byteC b] H) fun o H' => o = .val (.bool (letterB b)) ∧ H' = H := by
    rw [c_letter hE, callB, bodyOf]
    unfold letterB byteC
    by_cases h1 : (97 : Int) ≤ b.toNat
    · simp [Try.f69, h1, show 97 ≤ b.toNat by omega]
      omega
    · simp [Try.f69, h1, show ¬ 97 ≤ b.toNat by omega]
  obtain ⟨o, H', e, rfl, rfl⟩ := key
  exact e
theorem digit_run (b : UInt8) (H : Heap) : (run Try.prog E).call 70 [byteC b] H = some (.val (.bool (digitB b)), H) := by
  have key : Gives ((run Try.prog E).call 70 [byteC b] H) fun o H' => o = .val (.bool (digitB b)) ∧ H' = H := by
    rw [c_digit hE, callB, bodyOf]
    unfold digitB byteC
    by_cases h1 : (48 : Int) ≤ b.toNat
    · simp [Try.f70, h1, show 48 ≤ b.toNat by omega]
      omega
    · simp [Try.f70, h1, show ¬ 48 ≤ b.toNat by omega]
  obtain ⟨o, H', e, rfl, rfl⟩ := key
  exact e
theorem word_run (x : ByteArray) (H : Heap) : ∃ H', (run Try.prog E).call 71 [.string x] H = some (.val (.bool (isWord x)), H') ∧ Same (fun _ => False) H H' := by
  suffices key : Gives ((run Try.prog E).call 71 [.string x] H) fun o H' => o = .val (.bool (isWord x)) ∧ Same (fun _ => False) H H' by
    obtain ⟨o, H', e, rfl, k⟩ := key
    exact ⟨H', e, k⟩
  rw [c_Word hE, callB, bodyOf]
  have hlen : wordsL.length = 32 := rfl
  simp [-build_eq, b_words, Try.f71, hlen]
  have fin : Same (fun _ => False) H (H.push (.row true 0 1 (wordsL.map fun x => .string x))) := Same.push _ _ _
  refine loop_wp (fun m t H' => ∃ i : Nat, i + m = 32 ∧ rd t 4 = .int .i64 i ∧ H' = H.push (.row true 0 1 (wordsL.map fun x => .string x)) ∧ isWord x = (wordsL.drop i).any fun w => decide (w = x)) 32 ?_ ?_
  · exact ⟨0, rfl, by simp, rfl, rfl⟩
  rintro m t H' hk ⟨i, hi, g4, rfl, ho⟩
  have ht : t.length = 15 := hk.1.trans (by simp [len_Bs])
  have hh := hk.all [0, 3] (by decide +kernel)
  simp at hh
  obtain ⟨a0, a3⟩ := hh
  by_cases hm : m = 0
  · subst hm
    obtain rfl : i = 32 := by omega
    have h0 : ((wordsL.drop 32).any fun w => decide (w = x)) = false := rfl
    rw [ho, h0]
    simp [ht, g4]
    exact fin
  · have hi13 : i < wordsL.length := by omega
    have hi : i < 32 := by omega
    have hw := wrap64 ((i : Int) + 1) (by omega) (by omega)
    have hq := List.getElem?_eq_getElem hi13
    rw [ho, List.drop_eq_getElem_cons hi13, List.any_cons]
    generalize wordsL[i] = q at hq ⊢
    by_cases c1 : q = x
    · simp [ht, g4, show (i : Int) < 32 by omega, a0, a3, hi, hq, c1]
      exact fin
    · simp [ht, g4, show (i : Int) < 32 by omega, a0, a3, hi, hq, c1, hw]
      exact ⟨m - 1, by omega, i + 1, by omega, by simp, rfl⟩
omit hE in
theorem conv_u8 (x : Int) (H : Heap) : exConvert Try.prog 5 3 (.int .u8 x) H = some (.int .i64 (IntKind.i64.wrap x), H) := rfl
omit hE in
theorem bin_quo10 (x y : Operand) (a : Int) : exBin Try.prog .quo 3 x y (.int .i64 a) (.int .i64 10) = some (.int .i64 (IntKind.i64.wrap (a.tdiv 10))) := rfl
omit hE in
theorem conv_str {H : Heap} {sid off cap : Nat} {l : List UInt8} (h : BS H sid off cap l) (n : Nat) (hn : n = l.length) : exConvert Try.prog 22 9 (.slice (some ⟨sid, off, none⟩) n cap) H = some (.string ⟨⟨l⟩⟩, H) := by
  subst hn
  obtain ⟨own, tl, es, cs, h1, h2, h3, h4⟩ := h
  have hb : ∀ l : List UInt8, byteList (l.map byteC) = some l := by
    intro l
    induction l with
    | nil => rfl
    | cons b bs ih =>
      simp only [List.map_cons, byteC, byteList] at ih ⊢
      rw [ih]
      simp
  have e : exConvert Try.prog 22 9 (.slice (some ⟨sid, off, none⟩) l.length cap) H = (match cellsOf H 1 l.length (.slice (some ⟨sid, off, none⟩) l.length cap) with | some cs => (byteList cs).map fun l => (.string ⟨⟨l⟩⟩, H) | none => none) := rfl
  rw [e]
  simp [h1, h2, h4, hb]
omit hE in
/-- A part of a slice of bytes. -/
theorem BS.cut {H : Heap} {sid off cap : Nat} {l : List UInt8} (h : BS H sid off cap l) (a b : Nat) (hab : a ≤ b) (hb : b ≤ l.length) (ha : a < cap) :
    cutA sid off l.length cap 1 (some (.int .i64 a)) (some (.int .i64 b)) none H = some (.slice (some ⟨sid, off + a, none⟩) (b - a) (cap - a), H) ∧ BS H sid (off + a) (cap - a) ((l.drop a).take (b - a)) := by
  obtain ⟨own, tl, es, cs, h1, h2, h3, h4⟩ := h
  refine ⟨?_, own, tl, es, cs, h1, ?_, ?_, ?_⟩
  · simp only [cutA, boundOf, h1]
    rw [if_pos (by omega)]
    cases tl with
    | zero => simp [show ¬ (cap : Int) = a by omega]
    | succ tl => simp only []; rw [if_neg (by omega)]; simp
  · simp; omega
  · simp; omega
  · have := congrArg (fun x => (x.drop a).take (b - a)) h4
    simp only [List.drop_take, List.take_take, List.drop_drop] at this
    simp only [List.length_take, List.length_drop, List.map_take, List.map_drop]
    rw [show min (b - a) (l.length - a) = b - a by omega] at this ⊢
    rw [← this]
omit hE in
theorem BS.cell {H : Heap} {sid off cap : Nat} {l : List UInt8} (h : BS H sid off cap l) {i : Nat} (hi : i < l.length) : ∃ own tl es cs, H.get sid = .row own tl es cs ∧ cs[off + i]? = some (byteC l[i]) := by
  obtain ⟨own, tl, es, cs, h1, h2, h3, h4⟩ := h
  refine ⟨own, tl, es, cs, h1, ?_⟩
  have : ((cs.drop off).take l.length)[i]? = (l.map byteC)[i]? := by rw [h4]
  rw [List.getElem?_take_of_lt hi, List.getElem?_drop] at this
  rw [this]
  simp [hi]
theorem number_run {H : Heap} {sid off cap : Nat} {l : List UInt8} (h : BS H sid off cap l) (hd : ∀ b ∈ l, digitB b = true) (hlen : l.length ≤ 100000) :
    (run Try.prog E).call 72 [.slice (some ⟨sid, off, none⟩) l.length cap] H = some (.val (match numFrom l 0 with | some n => .tuple #[.int .i64 n, .bool true] | none => .tuple #[.int .i64 0, .bool false]), H) := by
  have key : Gives ((run Try.prog E).call 72 [.slice (some ⟨sid, off, none⟩) l.length cap] H) fun o H' => o = .val (match numFrom l 0 with | some n => .tuple #[.int .i64 n, .bool true] | none => .tuple #[.int .i64 0, .bool false]) ∧ H' = H := by
    rw [c_number hE, callB, bodyOf]
    simp [Try.f72]
    refine loop_wp (NumI l H) l.length ?_ ?_
    · exact ⟨0, 0, by omega, by simp, by simp, by omega, by omega, rfl, rfl⟩
    rintro m t H' hk ⟨i, n, hi, g5, g4, hn0, hn1, rfl, ho⟩
    have ht : t.length = 29 := hk.1.trans (by simp [len_Bs])
    have hh := hk.all [0] (by decide +kernel)
    simp at hh
    by_cases hm : m = 0
    · subst hm
      obtain rfl : i = l.length := by omega
      rw [ho, List.drop_length]
      simp [ht, g5, g4, hh, numFrom]
    · have hil : i < l.length := by omega
      obtain ⟨own, tl, es, cs, h1, h2⟩ := h.cell hil
      have hb := hd l[i] (List.getElem_mem hil)
      unfold digitB at hb
      simp only [decide_eq_true_eq] at hb
      have ho2 := ho
      rw [List.drop_eq_getElem_cons hil, numFrom] at ho2
      rw [ho2]
      generalize l[i] = b at hb h2 ho2 ⊢
      simp only [byteC] at h2
      have hw := wrap64 ((i : Int) + 1) (by omega) (by omega)
      have hw8 : IntKind.u8.wrap ((b.toNat : Int) - 48) = (b.toNat : Int) - 48 := by
        unfold IntKind.wrap
        simp [IntKind.bits, IntKind.signed]
        omega
      have hwd := wrap64 ((b.toNat : Int) - 48) (by omega) (by omega)
      have hwm := wrap64 (9223372036854775807 - ((b.toNat : Int) - 48)) (by omega) (by omega)
      have hq : (9223372036854775807 - ((b.toNat : Int) - 48)).tdiv 10 = (9223372036854775807 - ((b.toNat : Int) - 48)) / 10 := Int.tdiv_eq_ediv_of_nonneg (by omega)
      have hwq := wrap64 ((9223372036854775807 - ((b.toNat : Int) - 48)) / 10) (by omega) (by omega)
      by_cases hbig : (9223372036854775807 - ((b.toNat : Int) - 48)) / 10 < n
      · rw [if_pos hbig]
        simp [ht, g5, g4, hh, show (i : Int) < l.length by omega, hil, h1, h2, hw8, conv_u8, hwd, hwm, bin_quo10, hq, hwq, hbig]
      · rw [if_neg hbig]
        have hw10 := wrap64 (10 * n) (by omega) (by omega)
        have hwn := wrap64 (10 * n + ((b.toNat : Int) - 48)) (by omega) (by omega)
        simp [ht, g5, g4, hh, show (i : Int) < l.length by omega, hil, h1, h2, hw8, conv_u8, hwd, hwm, bin_quo10, hq, hwq, hbig, hw10, hwn, hw]
        refine ⟨m - 1, by omega, i + 1, 10 * n + ((b.toNat : Int) - 48), by omega, by simp [ht], by simp [ht], by omega, by omega, rfl, ?_⟩
        rw [ho2, if_neg hbig]
  obtain ⟨o, H', e, rfl, rfl⟩ := key
  exact e
omit hE in
theorem BS.head {H : Heap} {sid off cap : Nat} {l : List UInt8} (h : BS H sid off cap l) (b : Nat) (hb : b ≤ l.length) (h0 : 0 < l.length) :
    cutA sid off l.length cap 1 none (some (.int .i64 b)) none H = some (.slice (some ⟨sid, off, none⟩) b cap, H) ∧ BS H sid off cap (l.take b) := by
  have hc := h
  obtain ⟨own, tl, es, cs, h1, h2, h3, h4⟩ := h
  refine ⟨?_, own, tl, es, cs, h1, ?_, ?_, ?_⟩
  · simp only [cutA, boundOf, h1]
    rw [if_pos (by omega)]
    cases tl with
    | zero => simp
    | succ tl => simp only []; rw [if_neg (by omega)]; simp
  · simp; omega
  · simp; omega
  · have := congrArg (fun x => x.take b) h4
    simp only [List.take_take] at this
    simp only [List.length_take, List.map_take]
    exact this
omit hE in
theorem BS.tail {H : Heap} {sid off cap : Nat} {l : List UInt8} (h : BS H sid off cap l) (a : Nat) (ha : a < l.length) :
    cutA sid off l.length cap 1 (some (.int .i64 a)) none none H = some (.slice (some ⟨sid, off + a, none⟩) (l.length - a) (cap - a), H) ∧ BS H sid (off + a) (cap - a) (l.drop a) := by
  have hcap : l.length ≤ cap := by obtain ⟨_, _, _, _, _, _, h3, _⟩ := h; exact h3
  obtain ⟨h1, h2⟩ := h.cut a l.length (by omega) (Nat.le_refl _) (by omega)
  refine ⟨?_, ?_⟩
  · rw [← h1]; simp only [cutA, boundOf]
  · rw [List.take_of_length_le (by simp)] at h2; exact h2
omit hE in
theorem idx_one : ∀ (i : Nat) (h : i < oneL.length), ifGround (pureRun Try.prog (Instr.index 9 (.string ⟨#[59, 44, 40, 41, 91, 93, 43, 45, 42, 47, 37, 61, 60, 62, 46]⟩) (.int .i64 i))) = some (byteC oneL[i])
  | 0, _ => rfl
  | 1, _ => rfl
  | 2, _ => rfl
  | 3, _ => rfl
  | 4, _ => rfl
  | 5, _ => rfl
  | 6, _ => rfl
  | 7, _ => rfl
  | 8, _ => rfl
  | 9, _ => rfl
  | 10, _ => rfl
  | 11, _ => rfl
  | 12, _ => rfl
  | 13, _ => rfl
  | 14, _ => rfl
  | n + 15, h => absurd h (by simp [oneL])
omit hE in
theorem q_sign0 : quiet Try.prog (drawN Try.f73 0) = true := by decide +kernel
theorem sign_run {H : Heap} {sid off cap : Nat} {l : List UInt8} (h : BS H sid off cap l) (h0 : 0 < l.length) (hlen : l.length ≤ 100000) :
    (run Try.prog E).call 73 [.slice (some ⟨sid, off, none⟩) l.length cap] H = some (.val (.int .i64 (signP l)), H) := by
  have key : Gives ((run Try.prog E).call 73 [.slice (some ⟨sid, off, none⟩) l.length cap] H) fun o H' => o = .val (.int .i64 (signP l)) ∧ H' = H := by
    obtain ⟨own, tl, es, cs, h1, h2⟩ := h.cell h0
    rw [c_sign hE, callB, bodyOf]
    cases l with
    | nil => simp at h0
    | cons a l =>
    simp only [List.getElem_cons_zero, byteC] at h2
    have hol : oneL.length = 15 := rfl
    have h2' : cs[off]? = some (.int .u8 a.toNat) := h2
    cases l with
    | nil =>
      simp [Try.f73, signP]
      refine loop_wp (fun m t H' => ∃ i : Nat, i + m = 15 ∧ rd t 5 = .int .i64 i ∧ H' = H ∧ oneS a = (oneL.drop i).any fun c => decide (c = a)) 15 ?_ ?_
      · exact ⟨0, rfl, by simp, rfl, rfl⟩
      rintro m t H' hk ⟨i, hi, g5, rfl, ho⟩
      have ht : t.length = 43 := hk.1.trans (by simp [len_Bs])
      have hh := hk.all [0, 4] (by decide +kernel)
      simp at hh
      obtain ⟨a0, a4⟩ := hh
      by_cases hm : m = 0
      · subst hm
        obtain rfl : i = 15 := by omega
        have h0 : ((oneL.drop 15).any fun c => decide (c = a)) = false := rfl
        rw [ho, h0]
        simp [ht, g5, a4, ByteArray.size]
      · have hi13 : i < oneL.length := by omega
        have hi15 : i < 15 := by omega
        have hw := wrap64 ((i : Int) + 1) (by omega) (by omega)
        have hq := idx_one i hi13
        have ho2 := ho
        rw [List.drop_eq_getElem_cons hi13, List.any_cons] at ho2
        generalize oneL[i] = q at hq ho2
        simp only [byteC] at hq
        by_cases c1 : q = a
        · rw [ho2]
          simp [ht, g5, a4, ByteArray.size, show (i : Int) < 15 by omega]
          refine region_quiet (by exact q_sign0) ?_
          simp [op_index, idxA_str, ht, g5, a4, a0, hq, h1, h2', c1]
        · have c2 : ¬ (q.toNat : Int) = a.toNat := fun e => c1 (UInt8.toNat_inj.mp (by omega))
          have c3 : ¬ q.toNat = a.toNat := fun e => c1 (UInt8.toNat_inj.mp e)
          simp [ht, g5, a4, ByteArray.size, show (i : Int) < 15 by omega]
          refine region_quiet (by exact q_sign0) ?_
          simp [op_index, idxA_str, ht, g5, a4, a0, hq, h1, h2', c2, c3, hw]
          refine ⟨m - 1, by omega, i + 1, by omega, by simp [ht], ?_⟩
          rw [ho2]
          simp [c1]
    | cons b l =>
      obtain ⟨hc1, hc2⟩ := h.head 2 (by simp) (by simp)
      simp only [List.take_succ_cons, List.take_zero, List.length_cons] at hc1 hc2
      have hcs := conv_str hc2 2 rfl
      rw [show ((2 : Nat) : Int) = 2 from rfl] at hc1
      have hl1 : (1 : Int) < l.length + 1 + 1 := by omega
      rw [signP]
      generalize (⟨#[a, b]⟩ : ByteArray) = x at hcs ⊢
      by_cases c2 : twoS x = true
      · rw [if_pos c2]
        unfold twoS at c2
        simp only [Bool.or_eq_true, decide_eq_true_eq] at c2
        rcases c2 with rfl | rfl | rfl | rfl | rfl
        all_goals simp [Try.f73, hc1, hcs, hl1]
      · rw [if_neg c2]
        unfold twoS at c2
        simp only [Bool.or_eq_true, decide_eq_true_eq, not_or] at c2
        obtain ⟨d1, d2, d3, d4, d5⟩ := c2
        have hl2 : (0 : Int) < l.length + 1 + 1 := by omega
        have nb : ∀ y : ByteArray, ¬ x = y → (x.toList == y.data.toList) = false := fun y hy => by
          have := toList_beq x y
          rw [decide_eq_false hy, ByteArray.toList_eq y] at this
          exact this
        have d1 := nb _ d1
        have d2 := nb _ d2
        have d3 := nb _ d3
        have d4 := nb _ d4
        have d5 := nb _ d5
        simp only [] at d1 d2 d3 d4 d5
        simp [Try.f73, hc1, hcs, hl1, d1, d2, d3, d4, d5]
        refine loop_wp (fun m t H' => ∃ i : Nat, i + m = 15 ∧ rd t 5 = .int .i64 i ∧ H' = H ∧ oneS a = (oneL.drop i).any fun c => decide (c = a)) 15 ?_ ?_
        · exact ⟨0, rfl, by simp, rfl, rfl⟩
        rintro m t H' hk ⟨i, hi, g5, rfl, ho⟩
        have ht : t.length = 43 := hk.1.trans (by simp [len_Bs])
        have hh := hk.all [0, 4] (by decide +kernel)
        simp at hh
        obtain ⟨a0, a4⟩ := hh
        by_cases hm : m = 0
        · subst hm
          obtain rfl : i = 15 := by omega
          have h0 : ((oneL.drop 15).any fun c => decide (c = a)) = false := rfl
          rw [ho, h0]
          simp [ht, g5, a4, ByteArray.size]
        · have hi13 : i < oneL.length := by omega
          have hi15 : i < 15 := by omega
          have hw := wrap64 ((i : Int) + 1) (by omega) (by omega)
          have hq := idx_one i hi13
          have ho2 := ho
          rw [List.drop_eq_getElem_cons hi13, List.any_cons] at ho2
          generalize oneL[i] = q at hq ho2
          simp only [byteC] at hq
          by_cases c1 : q = a
          · rw [ho2]
            simp [ht, g5, a4, ByteArray.size, show (i : Int) < 15 by omega]
            refine region_quiet (by exact q_sign0) ?_
            simp [op_index, idxA_str, hl2, ht, g5, a4, a0, hq, h1, h2', c1]
          · have c2 : ¬ (q.toNat : Int) = a.toNat := fun e => c1 (UInt8.toNat_inj.mp (by omega))
            have c3 : ¬ q.toNat = a.toNat := fun e => c1 (UInt8.toNat_inj.mp e)
            simp [ht, g5, a4, ByteArray.size, show (i : Int) < 15 by omega]
            refine region_quiet (by exact q_sign0) ?_
            simp [op_index, idxA_str, hl2, ht, g5, a4, a0, hq, h1, h2', c2, c3, hw]
            refine ⟨m - 1, by omega, i + 1, by omega, by simp [ht], ?_⟩
            rw [ho2]
            simp [c1]
  obtain ⟨o, H', e, rfl, rfl⟩ := key
  exact e
end
end Go.Vm.Parse
namespace Go.Vm.Parse
open Go Go.Proofs
set_option maxRecDepth 100000
set_option maxHeartbeats 4000000
set_option linter.unusedSimpArgs false
set_option linter.unusedVariables false
attribute [local simp] repCells_succ writeAt rd_Fr toList_beq gpe gpn spe gse gsn ne_r0 ne_l0 le_s0 ne_r1 ne_l1 lt_s1 le_s1 ne_r2 ne_l2 lt_s2 le_s2 ne_r3 ne_l3 lt_s3 le_s3 ne_r4 ne_l4 lt_s4 le_s4 ne_r5 ne_l5 lt_s5 le_s5 ne_r6 ne_l6 lt_s6 le_s6 ne_r7 ne_l7 lt_s7 le_s7
def spanTo (p : UInt8 → Bool) (src : List UInt8) (to : Nat) : Nat := to + ((src.drop to).takeWhile p).length
theorem spanTo_step {p : UInt8 → Bool} {src : List UInt8} {to : Nat} (h : to < src.length) (hp : p src[to] = true) : spanTo p src to = spanTo p src (to + 1) := by
  unfold spanTo
  rw [List.drop_eq_getElem_cons h, List.takeWhile_cons, if_pos hp, List.length_cons]; omega
theorem spanTo_stop {p : UInt8 → Bool} {src : List UInt8} {to : Nat} (h : to < src.length) (hp : p src[to] = false) : spanTo p src to = to := by
  unfold spanTo
  rw [List.drop_eq_getElem_cons h, List.takeWhile_cons, if_neg (by rw [hp]; simp)]; rfl
theorem spanTo_end (p : UInt8 → Bool) (src : List UInt8) : spanTo p src src.length = src.length := by
  unfold spanTo
  rw [List.drop_length]; rfl
theorem spanTo_le {p : UInt8 → Bool} {src : List UInt8} {to : Nat} (h : to ≤ src.length) : to ≤ spanTo p src to ∧ spanTo p src to ≤ src.length := by
  unfold spanTo
  have := (List.takeWhile_prefix p (l := src.drop to)).length_le
  simp at this
  omega
def nameB (b : UInt8) : Bool := letterB b || digitB b
def cutB (src : List UInt8) (a b : Nat) : ByteArray := ⟨⟨(src.drop a).take (b - a)⟩⟩
inductive LS where
  | more (to : Nat) (t : Option Tk)
  | bad (c a : Int)
/-- One step of the reader of bytes. -/
def lexStep (src : List UInt8) (a : Nat) (c : UInt8) : LS :=
  if c.toNat = 32 ∨ c.toNat = 9 ∨ c.toNat = 10 ∨ c.toNat = 13 then .more (a + 1) none
  else if c.toNat = 123 then
    if spanTo (fun b => !decide (b.toNat = 125)) src (a + 1) = src.length then .bad 11 a else .more (spanTo (fun b => !decide (b.toNat = 125)) src (a + 1) + 1) none
  else if c.toNat = 80 ∨ c.toNat = 86 then .more (a + 1) (some ⟨3, a, 0, cutB src a (a + 1)⟩)
  else if letterB c = true then
    if isWord (cutB src a (spanTo nameB src (a + 1))) = true then .more (spanTo nameB src (a + 1)) (some ⟨3, a, 0, cutB src a (spanTo nameB src (a + 1))⟩)
    else if 12 < spanTo nameB src (a + 1) - a then .bad 12 a
    else .more (spanTo nameB src (a + 1)) (some ⟨1, a, 0, cutB src a (spanTo nameB src (a + 1))⟩)
  else if digitB c = true then
    match numFrom ((src.drop a).take (spanTo digitB src (a + 1) - a)) 0 with
    | none => .bad 13 a
    | some n => .more (spanTo digitB src (a + 1)) (some ⟨2, a, n, ByteArray.empty⟩)
  else if signP (src.drop a) = 0 then .bad 11 a
  else .more (a + signP (src.drop a)) (some ⟨4, a, 0, cutB src a (a + signP (src.drop a))⟩)
def lexFrom (src : List UInt8) : Nat → Nat → List Tk → Option (List Tk ⊕ (Int × Int))
  | 0, _, _ => none
  | n + 1, a, out =>
    if h : a < src.length then
      match lexStep src a src[a] with
      | .bad c p => some (.inr (c, p))
      | .more to none => lexFrom src n to out
      | .more to (some t) => lexFrom src n to (out ++ [t])
    else some (.inl (out ++ [⟨5, src.length, 0, ByteArray.empty⟩]))
/-- What reading the bytes must give. -/
def RetL (H : Heap) (res : List Tk ⊕ (Int × Int)) (o : Out) (H' : Heap) : Prop :=
  Same (fun _ => False) H H' ∧ match res with
  | .inr (c, p) => o = .val (.tuple #[.slice none 0 0, .agg #[.int .i64 c, .int .i64 p]])
  | .inl l => ∃ id, H.n ≤ id ∧ o = .val (.tuple #[.slice (some ⟨id, 0, none⟩) l.length l.length, .agg #[.int .i64 0, .int .i64 0]]) ∧ ∃ tl, tl ≤ 1 ∧ H'.get id = .row true tl 4 (flatT l)
theorem tf_tok : TF Try.prog 84 4 := ⟨_, _, _, by simp, by simp, by simp; rfl, by omega, by simp; rfl, rfl, by omega, rfl⟩

theorem span_all {p : UInt8 → Bool} {src : List UInt8} {a : Nat} (h : a < src.length) (hp : p src[a] = true) : ∀ x ∈ (src.drop a).take (spanTo p src (a + 1) - a), p x = true := by
  have e : spanTo p src (a + 1) - a = ((src.drop a).takeWhile p).length := by
    unfold spanTo
    rw [List.drop_eq_getElem_cons h, List.takeWhile_cons, if_pos hp, List.length_cons]; omega
  rw [e]
  intro x hx
  have hpre := List.takeWhile_prefix p (l := src.drop a)
  rw [← List.prefix_iff_eq_take.1 hpre] at hx
  exact List.all_eq_true.1 (List.all_takeWhile (p := p) (l := src.drop a)) x hx
theorem signP_le : ∀ l : List UInt8, signP l ≤ l.length
  | [] => by simp [signP]
  | [a] => by simp only [signP]; split <;> simp
  | a :: b :: l => by simp only [signP]; split; (simp); split <;> simp
theorem flatT_append : ∀ (l : List Tk) (t : Tk), flatT (l ++ [t]) = flatT l ++ t.cells
  | [], t => by simp [flatT]
  | x :: l, t => by simp [flatT, flatT_append l t]
theorem Same.any {X : Nat → Prop} {H H' : Heap} (k : Same X H H') (A : Heap) (h : ∀ i, X i → A.n ≤ i) (k0 : Same (fun _ => False) A H) : Same (fun _ => False) A H' := k0.then k fun i hi => .inr (h i hi)
theorem BS.same {X : Nat → Prop} {H H' : Heap} {sid off cap : Nat} {l : List UInt8} (h : BS H sid off cap l) (k : Same X H H') (hx : ¬ X sid) : BS H' sid off cap l := by
  obtain ⟨own, tl, es, cs, h1, h2⟩ := h
  exact ⟨own, tl, es, cs, k.at h1 (by simp) hx, h2⟩
/-- Where the loop of the reader of bytes stands. -/
def LexI (src : List UInt8) (H : Heap) (res : List Tk ⊕ (Int × Int)) (n m : Nat) (t : List Value) (H' : Heap) : Prop :=
  m ≤ n ∧ ∃ (a : Nat) (out : List Tk) (id tl : Nat), lexFrom src m a out = some res ∧ rd t 5 = .int .i64 a ∧ rd t 4 = .slice (some ⟨id, 0, none⟩) out.length out.length ∧ a ≤ src.length ∧ out.length ≤ a ∧
    H.n < id ∧ tl ≤ 1 ∧ H'.get id = .row true tl 4 (flatT out) ∧ H'.get H.n = .row true 0 1 [.int .i64 0, .int .i64 0] ∧ Same (fun _ => False) H H'
def SpanI (p : UInt8 → Bool) (src : List UInt8) (H2 : Heap) (e : Nat) (m : Nat) (t : List Value) (H' : Heap) : Prop :=
  ∃ to : Nat, to + m = src.length ∧ rd t 7 = .int .i64 to ∧ H' = H2 ∧ spanTo p src to = e
section
variable {E : Hooks} (hE : Plain E)
include hE
theorem all_walk {H : Heap} {sid off cap : Nat} {src : List UInt8} (hb : BS H sid off cap src) (hsm : src.length ≤ 4096) {n : Nat} {res : List Tk ⊕ (Int × Int)} (hres : lexFrom src n 0 [] = some res) :
    Gives ((run Try.prog E).call 35 [.slice (some ⟨sid, off, none⟩) src.length cap] H) (RetL H res) := by
  have hsid : sid < H.n := by obtain ⟨_, _, _, _, h, _⟩ := hb; exact Heap.lt_of_get h (by simp)
  have hcap : src.length ≤ cap := by obtain ⟨_, _, _, _, _, _, h, _⟩ := hb; exact h
  rw [c_All hE, callB, bodyOf]
  simp [Try.f35, show ¬ (4096 : Int) < src.length by omega]
  refine loop_wp (LexI src H res n) n ?_ ?_
  · exact ⟨Nat.le_refl n, 0, [], H.n + 1, 0, hres, by simp, by simp, by omega, by simp, by omega, by omega, by simp [flatT], by simp, (Same.push _ _ _).then_push _⟩
  rintro m t H' hk ⟨hmn, a, out, id, tl, hl, g5, g4, ha, hol, hid, htl, gO, gF, kS⟩
  have ht : t.length = 193 := hk.1.trans (by simp [len_Bs])
  have hh := hk.all [0, 3] (by decide +kernel)
  simp at hh
  obtain ⟨t0, t3⟩ := hh
  have hH := Heap.lt_of_get gO (by simp)
  have hB := hb.same kS (fun h => h)
  cases m with
  | zero => cases hl
  | succ m =>
  rw [lexFrom] at hl
  have hfl := flatT_length out
  -- one more token
  have grow : ∀ tk : Tk, ∃ H2, exAppend Try.prog [84, 84] (.slice (some ⟨id, 0, none⟩) out.length out.length) (.slice (some ⟨H'.n, 0, none⟩) 1 1) (H'.push (.row true 0 4 tk.cells)) = some (.slice (some ⟨H'.n + 1, 0, none⟩) (out.length + 1) (out.length + 1), H2) ∧
      H2.get (H'.n + 1) = .row true 1 4 (flatT (out ++ [tk])) ∧ H2.get H.n = .row true 0 1 [.int .i64 0, .int .i64 0] ∧ Same (fun _ => False) H H2 ∧ H'.n + 1 < H2.n := by
    intro tk
    obtain ⟨H2, e1, e2, e3, e4⟩ := app_one tf_tok (H := H'.push (.row true 0 4 tk.cells)) (id := id) (tl := tl) (n := out.length) (xid := H'.n) (cs := flatT out) (c := tk.cells) (xt := 0) (xe := 4) (xo := true) (xc := 1) (by rw [Heap.get_push, if_neg (by omega)]; exact gO) (by omega) htl rfl (Heap.get_push_self _ _) (by omega)
    refine ⟨H2, e1, by rw [flatT_append]; exact e2, e4.at (by rw [Heap.get_push, if_neg (by omega)]; exact gF) (by simp) (by omega), (kS.then_push _).then e4 (fun i hi => .inr (by omega)), ?_⟩
    rw [e3]; simp
  by_cases hlt : a < src.length
  · rw [dif_pos hlt] at hl
    obtain ⟨own, tl2, es, cs, hg1, hg2⟩ := hB.cell hlt
    have hw1 := wrap64 ((a : Int) + 1) (by omega) (by omega)
    unfold lexStep at hl
    generalize hbb : src[a] = b at hl hg2
    have hb8 : b.toNat < 256 := b.toNat_lt
    simp only [byteC] at hg2
    by_cases c1 : b.toNat = 32 ∨ b.toNat = 9 ∨ b.toNat = 10 ∨ b.toNat = 13
    · rw [if_pos c1] at hl
      have d : b.toNat = 32 ∨ b.toNat = 9 ∨ b.toNat = 10 ∨ b.toNat = 13 := c1
      rcases d with d | d | d | d
      all_goals
        simp [ht, g5, g4, t0, t3, hlt, hg1, hg2, hw1, d]
        exact ⟨m, by omega, by omega, a + 1, out, id, tl, hl, by simp [ht], by simp [ht, g4], by omega, by omega, hid, htl, gO, gF, kS⟩
    rw [if_neg c1] at hl
    simp only [not_or] at c1
    obtain ⟨d1, d2, d3, d4⟩ := c1
    have D1 : ¬ (b.toNat : Int) = 32 := by omega
    have D2 : ¬ (b.toNat : Int) = 9 := by omega
    have D3 : ¬ (b.toNat : Int) = 10 := by omega
    have D4 : ¬ (b.toNat : Int) = 13 := by omega
    by_cases c2 : b.toNat = 123
    · rw [if_pos c2] at hl
      obtain ⟨hs1, hs2⟩ := spanTo_le (p := fun b => !decide (b.toNat = 125)) (src := src) (to := a + 1) (by omega)
      generalize hsp : spanTo (fun b => !decide (b.toNat = 125)) src (a + 1) = sp at *
      simp [ht, g5, g4, t0, t3, hlt, hg1, hg2, hw1, c2]
      refine loop_wp (SpanI (fun b => !decide (b.toNat = 125)) src H' sp) (src.length - (a + 1)) ⟨a + 1, by omega, by simp [ht], rfl, hsp⟩ ?_
      rintro m2 t2 H2 hk2 ⟨to, hto, g7, rfl, hsp2⟩
      have ht2 : t2.length = 193 := hk2.1.trans (by simp [ht])
      have hh := hk2.all [0, 3, 4, 5] (by decide +kernel)
      simp [ht] at hh
      obtain ⟨u0, u3, u4, u5⟩ := hh
      simp only [t0, t3, g4, g5] at u0 u3 u4 u5
      by_cases hte : to < src.length
      · obtain ⟨own', tl2', es', cs', hg1', hg2'⟩ := hB.cell hte
        have hw7 := wrap64 ((to : Int) + 1) (by omega) (by omega)
        by_cases hp : (src[to]).toNat = 125
        · have := spanTo_stop (p := fun b => !decide (b.toNat = 125)) hte (by simp [hp])
          have hes : sp = to := by rw [← hsp2, this]
          subst hes
          rw [if_neg (by omega)] at hl
          simp only [byteC, hp] at hg2'
          simp [ht2, g7, u0, u3, u4, u5, hte, hg1', hg2', show ¬ (sp : Int) = src.length by omega, hw7]
          exact ⟨m, by omega, by omega, sp + 1, out, id, tl, hl, by simp [ht2], by simp [ht2, u4], by omega, by omega, hid, htl, gO, gF, kS⟩
        · have := spanTo_step (p := fun b => !decide (b.toNat = 125)) hte (by simp [hp])
          simp only [byteC] at hg2'
          simp [ht2, g7, u0, u3, u4, u5, hte, hg1', hg2', hw7, show ¬ ((src[to]).toNat : Int) = 125 by omega]
          exact ⟨m2 - 1, by omega, to + 1, by omega, by simp [ht2], rfl, by rw [← this]; exact hsp2⟩
      · obtain rfl : to = src.length := by omega
        rw [spanTo_end] at hsp2
        subst hsp2
        rw [if_pos rfl] at hl
        cases hl
        have hn2 : H.n < H2.n := by omega
        simp [ht2, g7, u0, u3, u4, u5, gF, hn2]
        exact ⟨kS.then_set hn2 (.inr (Nat.le_refl _)) _, by simp⟩
    rw [if_neg c2] at hl
    have D5 : ¬ (b.toNat : Int) = 123 := by omega
    by_cases c3 : b.toNat = 80 ∨ b.toNat = 86
    · rw [if_pos c3] at hl
      simp only [] at hl
      obtain ⟨hc1, hc2⟩ := hB.cut a (a + 1) (by omega) (by omega) (by omega)
      have hcs := conv_str hc2 1 (by simp; omega)
      rw [show a + 1 - a = 1 by omega] at hc1 hcs
      rw [show ((a + 1 : Nat) : Int) = (a : Int) + 1 by omega] at hc1
      obtain ⟨H2, e1, e2, e3, e4, e5⟩ := grow ⟨3, a, 0, cutB src a (a + 1)⟩
      simp only [Tk.cells, cutB] at e1
      rw [show a + 1 - a = 1 by omega] at e1
      rcases c3 with d | d
      all_goals
        simp [ht, g5, g4, t0, t3, hlt, hg1, hg2, hw1, d, hc1, hcs, e1]
        exact ⟨m, by omega, by omega, a + 1, _, H'.n + 1, 1, hl, by simp [ht], by simp [ht], by omega, by simp; omega, by omega, by omega, e2, e3, e4⟩
    rw [if_neg c3] at hl
    simp only [not_or] at c3
    obtain ⟨d5, d6⟩ := c3
    have D6 : ¬ (b.toNat : Int) = 80 := by omega
    have D7 : ¬ (b.toNat : Int) = 86 := by omega
    have eL := letter_run hE b H'
    simp only [byteC] at eL
    by_cases c4 : letterB b = true
    · rw [if_pos c4] at hl
      obtain ⟨hs1, hs2⟩ := spanTo_le (p := nameB) (src := src) (to := a + 1) (by omega)
      generalize hsp : spanTo nameB src (a + 1) = sp at *
      simp [ht, g5, g4, t0, t3, hlt, hg1, hg2, hw1, D1, D2, D3, D4, D5, D6, D7, eL, c4]
      refine loop_wp (SpanI nameB src H' sp) (src.length - (a + 1)) ⟨a + 1, by omega, by simp [ht], rfl, hsp⟩ ?_
      rintro m2 t2 H2 hk2 ⟨to, hto, g7, rfl, hsp2⟩
      have ht2 : t2.length = 193 := hk2.1.trans (by simp [ht])
      have hh := hk2.all [0, 3, 4, 5] (by decide +kernel)
      simp [ht] at hh
      obtain ⟨u0, u3, u4, u5⟩ := hh
      simp only [t0, t3, g4, g5] at u0 u3 u4 u5
      have step : (hte : to < src.length) → nameB src[to] = true → spanTo nameB src to = spanTo nameB src (to + 1) := fun h1 h2 => spanTo_step h1 h2
      have stop : (hte : to < src.length) → nameB src[to] = false → sp = to := fun h1 h2 => by rw [← hsp2, spanTo_stop h1 h2]
      -- behind the loop
      obtain ⟨hc1, hc2⟩ := hB.cut a sp (by omega) hs2 (by omega)
      have hcs := conv_str hc2 (sp - a) (by simp; omega)
      obtain ⟨HW, eW, kW⟩ := word_run hE (cutB src a sp) H2
      have kSW := kS.trans kW
      have gOW := kW.at gO (by simp) (fun h => h)
      have gFW := kW.at gF (by simp) (fun h => h)
      have growW : ∀ tk : Tk, ∃ H2, exAppend Try.prog [84, 84] (.slice (some ⟨id, 0, none⟩) out.length out.length) (.slice (some ⟨HW.n, 0, none⟩) 1 1) (HW.push (.row true 0 4 tk.cells)) = some (.slice (some ⟨HW.n + 1, 0, none⟩) (out.length + 1) (out.length + 1), H2) ∧
          H2.get (HW.n + 1) = .row true 1 4 (flatT (out ++ [tk])) ∧ H2.get H.n = .row true 0 1 [.int .i64 0, .int .i64 0] ∧ Same (fun _ => False) H H2 ∧ HW.n + 1 < H2.n := by
        intro tk
        have hHW := Heap.lt_of_get gOW (by simp)
        obtain ⟨H2, e1, e2, e3, e4⟩ := app_one tf_tok (H := HW.push (.row true 0 4 tk.cells)) (id := id) (tl := tl) (n := out.length) (xid := HW.n) (cs := flatT out) (c := tk.cells) (xt := 0) (xe := 4) (xo := true) (xc := 1) (by rw [Heap.get_push, if_neg (by omega)]; exact gOW) (by omega) htl rfl (Heap.get_push_self _ _) (by omega)
        refine ⟨H2, e1, by rw [flatT_append]; exact e2, e4.at (by rw [Heap.get_push, if_neg (by omega)]; exact gFW) (by simp) (by omega), (kSW.then_push _).then e4 (fun i hi => .inr (by omega)), ?_⟩
        rw [e3]; simp
      have hHW := Heap.lt_of_get gOW (by simp)
      have hn2 : H.n < HW.n := by omega
      simp only [cutB] at eW
      have hsz : (⟨⟨(src.drop a).take (sp - a)⟩⟩ : ByteArray).size = sp - a := by
        show ((src.drop a).take (sp - a)).length = _
        simp; omega
      have hend : (sp = to ∧ (to = src.length ∨ ∃ h : to < src.length, nameB src[to] = false)) ∨ (∃ h : to < src.length, nameB src[to] = true) := by
        by_cases hte : to < src.length
        · cases hn : nameB src[to] with
          | true => exact .inr ⟨hte, hn⟩
          | false => exact .inl ⟨stop hte hn, .inr ⟨hte, hn⟩⟩
        · have : to = src.length := by omega
          refine .inl ⟨?_, .inl this⟩
          rw [← hsp2, this, spanTo_end]
      rcases hend with ⟨rfl, hend⟩ | ⟨hte, hn⟩
      · rcases hend with hend | ⟨hte, hn⟩
        · have hns : ¬ (sp : Int) < src.length := by omega
          by_cases cw : isWord (cutB src a sp) = true
          · rw [if_pos cw] at hl
            simp only [] at hl
            simp only [cutB] at cw
            obtain ⟨H3, e1, e2, e3, e4, e5⟩ := growW ⟨3, a, 0, cutB src a sp⟩
            simp only [Tk.cells, cutB] at e1
            simp [ht2, g7, u0, u3, u4, u5, hns, hc1, hcs, eW, cw, e1]
            exact ⟨m, by omega, by omega, sp, _, HW.n + 1, 1, hl, by simp [ht2], by simp [ht2], by omega, by simp; omega, by omega, by omega, e2, e3, e4⟩
          · rw [if_neg cw] at hl
            have cw' : isWord (cutB src a sp) = false := by simpa using cw
            simp only [cutB] at cw'
            by_cases c12 : 12 < sp - a
            · rw [if_pos c12] at hl
              cases hl
              simp [ht2, g7, u0, u3, u4, u5, hns, hc1, hcs, eW, cw', hsz, show (12 : Int) < ((sp - a : Nat) : Int) by omega, gFW, hn2]
              exact ⟨kSW.then_set hn2 (.inr (Nat.le_refl _)) _, by simp⟩
            · rw [if_neg c12] at hl
              simp only [] at hl
              obtain ⟨H3, e1, e2, e3, e4, e5⟩ := growW ⟨1, a, 0, cutB src a sp⟩
              simp only [Tk.cells, cutB] at e1
              simp [ht2, g7, u0, u3, u4, u5, hns, hc1, hcs, eW, cw', hsz, show ¬ (12 : Int) < ((sp - a : Nat) : Int) by omega, e1]
              exact ⟨m, by omega, by omega, sp, _, HW.n + 1, 1, hl, by simp [ht2], by simp [ht2], by omega, by simp; omega, by omega, by omega, e2, e3, e4⟩
        · obtain ⟨own', tl2', es', cs', hg1', hg2'⟩ := hB.cell hte
          have eL2 := letter_run hE src[sp] H2
          have eD2 := digit_run hE src[sp] H2
          unfold nameB at hn
          simp only [Bool.or_eq_false_iff] at hn
          rw [hn.1] at eL2
          rw [hn.2] at eD2
          generalize src[sp] = b2 at hg2' eL2 eD2
          simp only [byteC] at hg2' eL2 eD2
          by_cases cw : isWord (cutB src a sp) = true
          · rw [if_pos cw] at hl
            simp only [] at hl
            simp only [cutB] at cw
            obtain ⟨H3, e1, e2, e3, e4, e5⟩ := growW ⟨3, a, 0, cutB src a sp⟩
            simp only [Tk.cells, cutB] at e1
            simp [ht2, g7, u0, u3, u4, u5, hte, hg1', hg2', eL2, eD2, hc1, hcs, eW, cw, e1]
            exact ⟨m, by omega, by omega, sp, _, HW.n + 1, 1, hl, by simp [ht2], by simp [ht2], by omega, by simp; omega, by omega, by omega, e2, e3, e4⟩
          · rw [if_neg cw] at hl
            have cw' : isWord (cutB src a sp) = false := by simpa using cw
            simp only [cutB] at cw'
            by_cases c12 : 12 < sp - a
            · rw [if_pos c12] at hl
              cases hl
              simp [ht2, g7, u0, u3, u4, u5, hte, hg1', hg2', eL2, eD2, hc1, hcs, eW, cw', hsz, show (12 : Int) < ((sp - a : Nat) : Int) by omega, gFW, hn2]
              exact ⟨kSW.then_set hn2 (.inr (Nat.le_refl _)) _, by simp⟩
            · rw [if_neg c12] at hl
              simp only [] at hl
              obtain ⟨H3, e1, e2, e3, e4, e5⟩ := growW ⟨1, a, 0, cutB src a sp⟩
              simp only [Tk.cells, cutB] at e1
              simp [ht2, g7, u0, u3, u4, u5, hte, hg1', hg2', eL2, eD2, hc1, hcs, eW, cw', hsz, show ¬ (12 : Int) < ((sp - a : Nat) : Int) by omega, e1]
              exact ⟨m, by omega, by omega, sp, _, HW.n + 1, 1, hl, by simp [ht2], by simp [ht2], by omega, by simp; omega, by omega, by omega, e2, e3, e4⟩
      · obtain ⟨own', tl2', es', cs', hg1', hg2'⟩ := hB.cell hte
        have hw7 := wrap64 ((to : Int) + 1) (by omega) (by omega)
        have eL2 := letter_run hE src[to] H2
        have eD2 := digit_run hE src[to] H2
        have hst := step hte hn
        unfold nameB at hn
        generalize src[to] = b2 at *
        simp only [byteC] at hg2' eL2 eD2
        cases hL : letterB b2 with
        | true =>
          rw [hL] at eL2
          simp [ht2, g7, u0, u3, u4, u5, hte, hg1', hg2', hw7, eL2]
          exact ⟨m2 - 1, by omega, to + 1, by omega, by simp [ht2], rfl, by rw [← hst]; exact hsp2⟩
        | false =>
          rw [hL, Bool.false_or] at hn
          rw [hL] at eL2
          rw [hn] at eD2
          simp [ht2, g7, u0, u3, u4, u5, hte, hg1', hg2', hw7, eL2, eD2]
          exact ⟨m2 - 1, by omega, to + 1, by omega, by simp [ht2], rfl, by rw [← hst]; exact hsp2⟩
    rw [if_neg c4] at hl
    have c4' : letterB b = false := by simpa using c4
    have eD := digit_run hE b H'
    simp only [byteC] at eD
    by_cases c5 : digitB b = true
    · rw [if_pos c5] at hl
      obtain ⟨hs1, hs2⟩ := spanTo_le (p := digitB) (src := src) (to := a + 1) (by omega)
      generalize hsp : spanTo digitB src (a + 1) = sp at *
      simp [ht, g5, g4, t0, t3, hlt, hg1, hg2, hw1, D1, D2, D3, D4, D5, D6, D7, eL, c4', eD, c5]
      refine loop_wp (SpanI digitB src H' sp) (src.length - (a + 1)) ⟨a + 1, by omega, by simp [ht], rfl, hsp⟩ ?_
      rintro m2 t2 H2 hk2 ⟨to, hto, g7, rfl, hsp2⟩
      have ht2 : t2.length = 193 := hk2.1.trans (by simp [ht])
      have hh := hk2.all [0, 3, 4, 5] (by decide +kernel)
      simp [ht] at hh
      obtain ⟨u0, u3, u4, u5⟩ := hh
      simp only [t0, t3, g4, g5] at u0 u3 u4 u5
      have step : (hte : to < src.length) → digitB src[to] = true → spanTo digitB src to = spanTo digitB src (to + 1) := fun h1 h2 => spanTo_step h1 h2
      have stop : (hte : to < src.length) → digitB src[to] = false → sp = to := fun h1 h2 => by rw [← hsp2, spanTo_stop h1 h2]
      obtain ⟨hc1, hc2⟩ := hB.cut a sp (by omega) hs2 (by omega)
      have hlen2 : ((src.drop a).take (sp - a)).length = sp - a := by simp; omega
      have hdig : ∀ x ∈ (src.drop a).take (sp - a), digitB x = true := by
        rw [← hsp]
        exact span_all hlt (by rw [hbb]; exact c5)
      have eN := number_run hE hc2 hdig (by omega)
      rw [hlen2] at eN
      have hn2 : H.n < H2.n := by omega
      have hend : (sp = to ∧ (to = src.length ∨ ∃ h : to < src.length, digitB src[to] = false)) ∨ (∃ h : to < src.length, digitB src[to] = true) := by
        by_cases hte : to < src.length
        · cases hn : digitB src[to] with
          | true => exact .inr ⟨hte, hn⟩
          | false => exact .inl ⟨stop hte hn, .inr ⟨hte, hn⟩⟩
        · have : to = src.length := by omega
          refine .inl ⟨?_, .inl this⟩
          rw [← hsp2, this, spanTo_end]
      rcases hend with ⟨rfl, hend⟩ | ⟨hte, hn⟩
      · rcases hend with hend | ⟨hte, hn⟩
        · have hns : ¬ (sp : Int) < src.length := by omega
          cases hnum : numFrom ((src.drop a).take (sp - a)) 0 with
          | none =>
            rw [hnum] at hl eN
            cases hl
            simp [ht2, g7, u0, u3, u4, u5, hns, hc1, eN, gF, hn2]
            exact ⟨kS.then_set hn2 (.inr (Nat.le_refl _)) _, by simp⟩
          | some v =>
            rw [hnum] at hl eN
            simp only [] at hl
            obtain ⟨H3, e1, e2, e3, e4, e5⟩ := grow ⟨2, a, v, ByteArray.empty⟩
            simp only [Tk.cells] at e1
            simp [ht2, g7, u0, u3, u4, u5, hns, hc1, eN, e1]
            exact ⟨m, by omega, by omega, sp, _, H2.n + 1, 1, hl, by simp [ht2], by simp [ht2], by omega, by simp; omega, by omega, by omega, e2, e3, e4⟩
        · obtain ⟨own', tl2', es', cs', hg1', hg2'⟩ := hB.cell hte
          have eD2 := digit_run hE src[sp] H2
          rw [hn] at eD2
          generalize src[sp] = b2 at hg2' eD2
          simp only [byteC] at hg2' eD2
          cases hnum : numFrom ((src.drop a).take (sp - a)) 0 with
          | none =>
            rw [hnum] at hl eN
            cases hl
            simp [ht2, g7, u0, u3, u4, u5, hte, hg1', hg2', eD2, hc1, eN, gF, hn2]
            exact ⟨kS.then_set hn2 (.inr (Nat.le_refl _)) _, by simp⟩
          | some v =>
            rw [hnum] at hl eN
            simp only [] at hl
            obtain ⟨H3, e1, e2, e3, e4, e5⟩ := grow ⟨2, a, v, ByteArray.empty⟩
            simp only [Tk.cells] at e1
            simp [ht2, g7, u0, u3, u4, u5, hte, hg1', hg2', eD2, hc1, eN, e1]
            exact ⟨m, by omega, by omega, sp, _, H2.n + 1, 1, hl, by simp [ht2], by simp [ht2], by omega, by simp; omega, by omega, by omega, e2, e3, e4⟩
      · obtain ⟨own', tl2', es', cs', hg1', hg2'⟩ := hB.cell hte
        have hw7 := wrap64 ((to : Int) + 1) (by omega) (by omega)
        have eD2 := digit_run hE src[to] H2
        have hst := step hte hn
        generalize src[to] = b2 at *
        simp only [byteC] at hg2' eD2
        rw [hn] at eD2
        simp [ht2, g7, u0, u3, u4, u5, hte, hg1', hg2', hw7, eD2]
        exact ⟨m2 - 1, by omega, to + 1, by omega, by simp [ht2], rfl, by rw [← hst]; exact hsp2⟩
    rw [if_neg c5] at hl
    have c5' : digitB b = false := by simpa using c5
    obtain ⟨hq1, hq2⟩ := hB.tail a hlt
    have eS := sign_run hE hq2 (by simp; omega) (by simp; omega)
    simp only [List.length_drop] at eS
    have hsig : signP (src.drop a) ≤ src.length - a := by
      have := signP_le (src.drop a)
      simpa using this
    by_cases c6 : signP (src.drop a) = 0
    · rw [if_pos c6] at hl
      cases hl
      have hn2 : H.n < H'.n := by omega
      simp [ht, g5, g4, t0, t3, hlt, hg1, hg2, hw1, D1, D2, D3, D4, D5, D6, D7, eL, c4', eD, c5', hq1, eS, c6, gF, hn2]
      exact ⟨kS.then_set hn2 (.inr (Nat.le_refl _)) _, by simp⟩
    · rw [if_neg c6] at hl
      simp only [] at hl
      generalize hsg : signP (src.drop a) = sg at *
      obtain ⟨hc1, hc2⟩ := hB.cut a (a + sg) (by omega) (by omega) (by omega)
      have hcs := conv_str hc2 sg (by simp; omega)
      rw [show a + sg - a = sg by omega] at hc1 hcs
      rw [show ((a + sg : Nat) : Int) = (a : Int) + sg by omega] at hc1
      obtain ⟨H2, e1, e2, e3, e4, e5⟩ := grow ⟨4, a, 0, cutB src a (a + sg)⟩
      simp only [Tk.cells, cutB] at e1
      rw [show a + sg - a = sg by omega] at e1
      have hws := wrap64 ((a : Int) + sg) (by omega) (by omega)
      simp [ht, g5, g4, t0, t3, hlt, hg1, hg2, hw1, D1, D2, D3, D4, D5, D6, D7, eL, c4', eD, c5', hq1, eS, c6, hws, hc1, hcs, e1]
      exact ⟨m, by omega, by omega, a + sg, _, H'.n + 1, 1, hl, by simp [ht], by simp [ht], by omega, by simp; omega, by omega, by omega, e2, e3, e4⟩
  · rw [dif_neg hlt] at hl
    cases hl
    obtain ⟨H2, e1, e2, e3, e4, e5⟩ := grow ⟨5, src.length, 0, ByteArray.empty⟩
    simp only [Tk.cells] at e1
    have hn2 : H.n < H2.n := by omega
    simp [ht, g5, g4, t0, t3, hlt, e1, e3, hn2]
    have ks : Same (fun i => i = H.n) H2 (H2.set H.n (.row true 0 1 [.int .i64 0, .int .i64 0])) := Same.set (X := fun i => i = H.n) H2 hn2 rfl _
    refine ⟨e4.then ks (fun i hi => .inr (by omega)), H'.n + 1, by omega, by simp, 1, by omega, ks.at e2 (by simp) (by omega)⟩
end
end Go.Vm.Parse
