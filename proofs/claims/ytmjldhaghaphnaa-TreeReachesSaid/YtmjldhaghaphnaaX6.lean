/- What is defined and proved: which procedures statements call; the program's Calls. What is defined and proved: which procedure reaches which, as the program finds it; the program's Reaches. What is defined and proved: which name reaches which, in plain words; that what the program finds is that. What is proved: the reference's hasText, Calls and Body. What is proved: the reference's Reaches. What is proved: the law's 'awake'. What is proved: the law's Within, for any bounds. What is proved: 'TreeReaches' hands back true, whatever the input. -/
import Derived.Test.YtmjldhaghaphnaaX5
set_option maxRecDepth 100000
set_option maxHeartbeats 4000000
set_option linter.unusedSimpArgs false
set_option linter.unusedVariables false
set_option linter.unusedSectionVars false
namespace Go.Vm.Tree
open Go Go.Proofs Go.Vm.Parse
attribute [local simp] repCells_succ writeAt rd_Fr toList_beq gpe gpn spe gse gsn
def hasN (x : ByteArray) : List ByteArray → Bool
 | [] => false
 | e :: l => decide (x = e) || hasN x l
theorem hasN_iff {x : ByteArray} : ∀ {l : List ByteArray}, hasN x l = true ↔ x ∈ l
 | [] => by simp [hasN]
 | e :: l => by simp [hasN, hasN_iff (l := l)]
def callA (k : Int) (x : ByteArray) (out : List ByteArray) : List ByteArray := if k = 6 ∧ hasN x out = false then out ++ [x] else out
mutual
def callS (out : List ByteArray) : Stm → List ByteArray
 | .mk k _ x _ bd el _ _ => callSs (callSs (callA k x out) bd) el
def callSs (out : List ByteArray) : List Stm → List ByteArray
 | [] => out
 | s :: l => callSs (callS out s) l
end
theorem callSs_snoc (out : List ByteArray) (l : List Stm) (s : Stm) : callSs out (l ++ [s]) = callS (callSs out l) s := by
 induction l generalizing out with
 | nil => simp only [List.nil_append, callSs]
 | cons a l ih => simp only [List.cons_append, callSs, ih]
theorem callSs_take (out : List ByteArray) (l : List Stm) (i : Nat) (h : i < l.length) : callSs out (l.take (i + 1)) = callS (callSs out (l.take i)) l[i] := by
 rw [List.take_succ_eq_append_getElem h, callSs_snoc]
mutual
theorem callS_len (out : List ByteArray) : ∀ s : Stm, (callS out s).length ≤ out.length + szS s
 | .mk k a x e bd el br it => by
  have h1 := callSs_len (callA k x out) bd
  have h2 := callSs_len (callSs (callA k x out) bd) el
  have h3 : (callA k x out).length ≤ out.length + 1 := by unfold callA; split <;> simp
  simp only [callS, szS]; omega
theorem callSs_len (out : List ByteArray) : ∀ l : List Stm, (callSs out l).length ≤ out.length + szSs l
 | [] => by simp only [callSs, szSs]; omega
 | s :: l => by
  have h1 := callS_len out s
  have h2 := callSs_len (callS out s) l
  simp only [callSs, szSs]; omega
end
def kn (l : List ByteArray) : List (Value × Value) := l.map fun x => (.string x, .bool true)
theorem ba_beq (a b : ByteArray) : (a == b) = decide (a = b) := by
 obtain ⟨x⟩ := a
 obtain ⟨y⟩ := b
 show (x == y) = _
 by_cases h : x = y
 · subst h; simp
 · rw [decide_eq_false (fun e => h (by cases e; rfl))]
   simpa using h
theorem find_kn (x : ByteArray) : ∀ l : List ByteArray, mapFind (.string x) (kn l) = some (if hasN x l = true then some (.bool true) else none)
 | [] => rfl
 | e :: l => by
  have ih := find_kn x l
  simp only [kn, List.map_cons] at ih ⊢
  simp only [mapFind, keyIs, ba_beq]
  by_cases h : x = e
  · subst h; simp [hasN]
  · rw [decide_eq_false h]
    simp only [ih, hasN, h, decide_false, Bool.false_or]
theorem put_kn (x : ByteArray) : ∀ l : List ByteArray, hasN x l = false → mapPut (.string x) (.bool true) (kn l) = some (kn (l ++ [x]))
 | [], _ => rfl
 | e :: l, h => by
  simp only [hasN, Bool.or_eq_false_iff, decide_eq_false_iff_not] at h
  have ih := put_kn x l h.2
  simp only [kn, List.map_cons, List.cons_append] at ih ⊢
  simp only [mapPut, keyIs, ba_beq]
  rw [decide_eq_false h.1]
  simp only [ih, Option.map_some]
theorem lk_kn {K : Heap} {m : Nat} {l : List ByteArray} (h : K.get m = .map (kn l)) (x : ByteArray) : exLookup Try.prog 72 (.map (some m)) (.string x) false K = some (.bool (hasN x l)) := by
 have f := find_kn x l
 by_cases e : hasN x l = true
 · rw [if_pos e] at f; simp [exLookup, keyKind, h, f, e]
 · rw [if_neg e] at f; simp [exLookup, keyKind, h, f, Bool.not_eq_true _ ▸ e]
theorem mp_kn {K : Heap} {m : Nat} {l : List ByteArray} (h : K.get m = .map (kn l)) {x : ByteArray} (e : hasN x l = false) : exMapPut Try.prog 72 (.map (some m)) (.string x) (.bool true) K = some (K.set m (.map (kn (l ++ [x])))) := by
 have f := put_kn x l e
 simp [exMapPut, keyKind, h, f]
def repNm : Rep ByteArray where
 k := 1
 R _ _ x cs := cs = [.string x]
 len h := by subst h; rfl
 move _ _ _ _ h := h
theorem tf_nm : TF Try.prog 38 1 := ⟨_, _, _, by simp, by simp, by simp; rfl, by omega, by simp; rfl, rfl, by omega, rfl⟩
def GS (B : Nat) (H : Heap) (v : Value) (l : List Stm) : Prop :=
 (v = .slice none 0 0 ∧ l = []) ∨ ∃ id tl cs, v = .slice (some ⟨id, 0, none⟩) l.length l.length ∧ id < B ∧ H.get id = .row true tl 8 cs ∧ RSs H (fun i => i < B) l cs
theorem GS.keep {B : Nat} {X : Nat → Prop} {H H' : Heap} {v : Value} {l : List Stm} (h : GS B H v l) (k : Same X H H') (hX : ∀ i, X i → B ≤ i) : GS B H' v l := by
 refine h.imp id ?_
 rintro ⟨id, tl, cs, h1, h2, h4, h5⟩
 exact ⟨id, tl, cs, h1, h2, k.at h4 (by simp) (fun h => by have := hX _ h; omega), RSs.move k (fun i hi _ => ⟨hi, fun h => by have := hX _ h; omega⟩) _ _ h5⟩
theorem GS.slice {B : Nat} {H : Heap} {v : Value} {l : List Stm} (h : GS B H v l) : ∃ b, v = .slice b l.length l.length := by
 rcases h with ⟨rfl, rfl⟩ | ⟨id, tl, cs, rfl, _⟩ <;> exact ⟨_, rfl⟩
theorem GS.at {B : Nat} {H : Heap} {b : Option Addr} {n m : Nat} {l : List Stm} (h : GS B H (.slice b n m) l) {i : Nat} (hi : i < l.length) :
  ∃ id tl cs, b = some ⟨id, 0, none⟩ ∧ id < B ∧ H.get id = .row true tl 8 cs ∧ cs.length = l.length * 8 ∧ RS H (fun i => i < B) l[i] ((cs.drop (i * 8)).take 8) := by
 rcases h with ⟨_, rfl⟩ | ⟨id, tl, cs, e, h2, h4, h5⟩
 · simp at hi
 · cases e
   exact ⟨id, tl, cs, rfl, h2, h4, repStm.L_len (repStm_L.2 h5), L_item repStm (repStm_L.2 h5) i hi⟩
theorem GS.of {S : Nat → Prop} {B : Nat} {H : Heap} {v : Value} {l : List Stm} (hS : ∀ i, S i → i < B) (h : (v = .slice none 0 0 ∧ l = []) ∨ ∃ id tl cs', v = .slice (some ⟨id, 0, none⟩) l.length l.length ∧ tl ≤ 1 ∧ S id ∧ H.get id = .row true tl 8 cs' ∧ RSs H S l cs') : GS B H v l := by
 refine h.imp id ?_
 rintro ⟨id, tl, cs, h1, _, h3, h4, h5⟩
 exact ⟨id, tl, cs, h1, hS _ h3, h4, h5.weak hS⟩
theorem GS.ofG {S : Nat → Prop} {B : Nat} {H : Heap} {v : Value} {l : List Stm} (hS : ∀ i, S i → i < B) (h : repStm.G H S v l) : GS B H v l := by
 refine h.imp id ?_
 rintro ⟨id, tl, cs, h1, _, h3, h4, h5⟩
 exact ⟨id, tl, cs, h1, hS _ h3, h4, (repStm_L.1 h5).weak fun i hi => hS i hi.1⟩
theorem st_gs {B : Nat} {H : Heap} {k a : Int} {x : ByteArray} {e : List Ex} {bd el : List Stm} {br : List Bra} {it : List Itm} {cs : List Value} (h : RS H (fun i => i < B) (.mk k a x e bd el br it) cs) :
  ∃ b1 b2 b3 b4 b5, cs = [.int .i64 k, .int .i64 a, .string x, .slice b1 e.length e.length, .slice b2 bd.length bd.length, .slice b3 el.length el.length, .slice b4 br.length br.length, .slice b5 it.length it.length] ∧
   GS B H (.slice b2 bd.length bd.length) bd ∧ GS B H (.slice b3 el.length el.length) el := by
 obtain ⟨b1, b2, b3, b4, b5, rfl, _⟩ := st_parts h
 simp only [RS] at h
 obtain ⟨v1, v2, v3, v4, v5, e0, h1, h4, h5, h2, h3⟩ := h
 simp only [List.cons.injEq] at e0
 obtain ⟨_, _, _, rfl, rfl, rfl, rfl, rfl, _⟩ := e0
 exact ⟨b1, b2, b3, b4, b5, rfl, GS.of (fun _ h => h) h2, GS.of (fun _ h => h) h3⟩
structure CW (B : Nat) (K : Heap) (S : Nat → Prop) (out : List ByteArray) : Prop where
 known : K.get (B + 2) = .row true 0 1 [.map (some (B + 1))]
 map : K.get (B + 1) = .map (kn out)
 walk : K.get (B + 3) = .row true 0 1 [.func (.func 35) #[] #[.pointer (some ⟨B + 2, 0, none⟩), .pointer (some ⟨B, 0, none⟩), .pointer (some ⟨B + 3, 0, none⟩)]]
 out : ∃ b, K.get B = .row true 0 1 [.slice b out.length out.length] ∧ repNm.G K S (.slice b out.length out.length) out
def cwX (B : Nat) (S : Nat → Prop) (i : Nat) : Prop := i = B ∨ i = B + 1 ∨ S i
section
variable {E : Hooks} (hE : Plain E)
include hE
theorem c_tWalk (args : List Value) (H : Heap) : (run Try.prog E).call 35 args H = callB Try.prog E Try.f35 args H := call_B Try.func35 rfl (by decide +kernel) (hE.no _ rfl rfl) args H
theorem c_tCalls (args : List Value) (H : Heap) : (run Try.prog E).call 11 args H = callB Try.prog E Try.f11 args H := call_B Try.func11 rfl (by decide +kernel) (hE.no _ rfl rfl) args H
def WalkOK (E : Hooks) (B : Nat) (l : List Stm) : Prop := ∀ (S : Nat → Prop) (K : Heap) (out : List ByteArray) (v : Value), (∀ i, S i → B + 4 ≤ i) → (∀ i, K.n ≤ i → S i) → B + 4 ≤ K.n → CW B K S out → GS B K v l → out.length + szSs l ≤ 90000 →
 Gives ((run Try.prog E).call 35 [v, .pointer (some ⟨B + 2, 0, none⟩), .pointer (some ⟨B, 0, none⟩), .pointer (some ⟨B + 3, 0, none⟩)] K) fun r K' => (∃ v, r = .val v) ∧ CW B K' S (callSs out l) ∧ Same (cwX B S) K K'
theorem walk_step (B n : Nat) (ih : ∀ a, szSs a < n → WalkOK E B a) : ∀ l, szSs l < n + 1 → WalkOK E B l := by
 intro l hn S H out v hS4 hS hB hC h1 hsz
 have ll := szSs_len l
 obtain ⟨b1, rfl⟩ := h1.slice
 rw [c_tWalk hE, callB, bodyOf]
 simp [Try.f35]
 refine loop_wp (fun m t K => ∃ i : Nat, i + m = l.length ∧ rd t 9 = .int .i64 i ∧ CW B K S (callSs out (l.take i)) ∧ Same (cwX B S) H K) l.length ?_ ?_
 · exact ⟨0, by omega, by simp, by simpa [callSs] using hC, Same.refl _ _⟩
 rintro m t K hk ⟨i, hm, g9, hC, kS⟩
 have ht : t.length = 40 := hk.1.trans (by simp [len_Bs])
 have hh := hk.all [1, 2, 3, 7, 8] (by decide +kernel)
 simp at hh
 obtain ⟨u1, u2, u3, u7, u8⟩ := hh
 clear hk
 have hX4 : ∀ i, cwX B S i → B ≤ i := fun i h => by
  rcases h with h | h | h
  · omega
  · omega
  · have := hS4 i h; omega
 have hKn := kS.n
 rcases Nat.lt_or_ge i l.length with hi | hi
 · obtain ⟨id1, tl1, cs1, rfl, b1', p1, l1, r1⟩ := (h1.keep kS hX4).at hi
   have hm1 := szs_mem (List.getElem_mem hi)
   have ct := callSs_take out l i hi
   have cl := callSs_len out (l.take i)
   have sl : szSs (l.take i) + szS l[i] ≤ szSs l := by
    have e : l = l.take i ++ l[i] :: l.drop (i + 1) := by rw [← List.drop_eq_getElem_cons hi, List.take_append_drop]
    have ap : ∀ a b : List Stm, szSs (a ++ b) = szSs a + szSs b := fun a b => by
     induction a with
     | nil => simp [szSs]
     | cons x a ih => simp only [List.cons_append, szSs, ih]; omega
    conv => rhs; rw [e, ap]
    simp only [szSs]; omega
   generalize l[i] = X at *
   generalize callSs out (l.take i) = O at *
   obtain ⟨k1, a1, x1, e1, bd1, el1, br1, it1, hx⟩ : ∃ k1 a1 x1 e1 bd1 el1 br1 it1, X = Stm.mk k1 a1 x1 e1 bd1 el1 br1 it1 := by cases X; exact ⟨_, _, _, _, _, _, _, _, rfl⟩
   subst hx
   obtain ⟨w1, w2, w3, w4, w5, ec, G3, G4⟩ := st_gs r1
   simp only [szS] at hm1 sl
   simp only [callS] at ct
   have hw := wrap64 ((i : Int) + 1) (by omega) (by omega)
   have kp : Same (fun _ => False) K (K.push (.row true 0 1 [.int .i64 k1, .int .i64 a1, .string x1, .slice w1 e1.length e1.length, .slice w2 bd1.length bd1.length, .slice w3 el1.length el1.length, .slice w4 br1.length br1.length, .slice w5 it1.length it1.length])) := Same.push _ _ _
   have z0 : (K.push (.row true 0 1 [.int .i64 k1, .int .i64 a1, .string x1, .slice w1 e1.length e1.length, .slice w2 bd1.length bd1.length, .slice w3 el1.length el1.length, .slice w4 br1.length br1.length, .slice w5 it1.length it1.length])).get K.n = .row true 0 1 [.int .i64 k1, .int .i64 a1, .string x1, .slice w1 e1.length e1.length, .slice w2 bd1.length bd1.length, .slice w3 el1.length el1.length, .slice w4 br1.length br1.length, .slice w5 it1.length it1.length] := Heap.get_push_self _ _
   have n1 : (K.push (.row true 0 1 [.int .i64 k1, .int .i64 a1, .string x1, .slice w1 e1.length e1.length, .slice w2 bd1.length bd1.length, .slice w3 el1.length el1.length, .slice w4 br1.length br1.length, .slice w5 it1.length it1.length])).n = K.n + 1 := rfl
   simp [ht, u1, u2, u3, u7, u8, g9, hi, p1, l1, show i * 8 + 8 ≤ l.length * 8 by omega, ec, z_stm]
   generalize hK1 : K.push (.row true 0 1 [.int .i64 k1, .int .i64 a1, .string x1, .slice w1 e1.length e1.length, .slice w2 bd1.length bd1.length, .slice w3 el1.length el1.length, .slice w4 br1.length br1.length, .slice w5 it1.length it1.length]) = K1 at *
   obtain ⟨q1, q2, q3, b, q4, q5⟩ := hC
   have q1' := kp.at q1 (by simp) fun h => h
   have q2' := kp.at q2 (by simp) fun h => h
   have q3' := kp.at q3 (by simp) fun h => h
   have q4' := kp.at q4 (by simp) fun h => h
   have lk := lk_kn q2' x1
   have fin : ∀ K2, Same (cwX B S) K K2 → K.n + 1 ≤ K2.n → K2.get K.n = .row true 0 1 [.int .i64 k1, .int .i64 a1, .string x1, .slice w1 e1.length e1.length, .slice w2 bd1.length bd1.length, .slice w3 el1.length el1.length, .slice w4 br1.length br1.length, .slice w5 it1.length it1.length] → CW B K2 (fun i => S i ∧ i ≠ K.n) (callA k1 x1 O) →
     ∃ r1 r2 K3 K4, (run Try.prog E).call 35 [.slice w2 bd1.length bd1.length, .pointer (some ⟨B + 2, 0, none⟩), .pointer (some ⟨B, 0, none⟩), .pointer (some ⟨B + 3, 0, none⟩)] K2 = some (.val r1, K3) ∧
      K2.get (B + 3) = .row true 0 1 [.func (.func 35) #[] #[.pointer (some ⟨B + 2, 0, none⟩), .pointer (some ⟨B, 0, none⟩), .pointer (some ⟨B + 3, 0, none⟩)]] ∧
      K3.get (B + 3) = .row true 0 1 [.func (.func 35) #[] #[.pointer (some ⟨B + 2, 0, none⟩), .pointer (some ⟨B, 0, none⟩), .pointer (some ⟨B + 3, 0, none⟩)]] ∧ K3.get K.n = .row true 0 1 [.int .i64 k1, .int .i64 a1, .string x1, .slice w1 e1.length e1.length, .slice w2 bd1.length bd1.length, .slice w3 el1.length el1.length, .slice w4 br1.length br1.length, .slice w5 it1.length it1.length] ∧
      (run Try.prog E).call 35 [.slice w3 el1.length el1.length, .pointer (some ⟨B + 2, 0, none⟩), .pointer (some ⟨B, 0, none⟩), .pointer (some ⟨B + 3, 0, none⟩)] K3 = some (.val r2, K4) ∧ CW B K4 S (callSs (callSs (callA k1 x1 O) bd1) el1) ∧ Same (cwX B S) H K4 := by
    intro K2 k2 n2 z2 C2
    have hS1 : ∀ i, S i ∧ i ≠ K.n → B + 4 ≤ i := fun i h => hS4 i h.1
    have al : (callA k1 x1 O).length ≤ O.length + 1 := by unfold callA; split <;> simp
    have bl := callSs_len (callA k1 x1 O) bd1
    have hKn0 : H.n ≤ K.n := hKn
    obtain ⟨o3, K3, e3, ⟨r3, rfl⟩, C3, k3⟩ := ih bd1 (by omega) (fun i => S i ∧ i ≠ K.n) K2 _ _ hS1 (fun i h => ⟨hS i (by omega), by omega⟩) (by have := k2.n; omega) C2 (G3.keep k2 hX4) (by omega)
    have hX1 : ∀ i, cwX B (fun i => S i ∧ i ≠ K.n) i → cwX B S i := fun i h => h.imp id (fun h => h.imp id And.left)
    have nK : ¬ cwX B (fun i => S i ∧ i ≠ K.n) K.n := fun h => by rcases h with h | h | h <;> omega
    obtain ⟨o4, K4, e4, ⟨r4, rfl⟩, C4, k4⟩ := ih el1 (by omega) (fun i => S i ∧ i ≠ K.n) K3 _ _ hS1 (fun i h => ⟨hS i (by have := k3.n; omega), by have := k3.n; omega⟩) (by have := k3.n; have := k2.n; omega) C3 ((G4.keep k2 hX4).keep k3 fun i h => hX4 i (hX1 i h)) (by omega)
    refine ⟨r3, r4, K3, K4, e3, C2.walk, C3.walk, k3.at z2 (by simp) nK, e4, ⟨C4.known, C4.map, C4.walk, ?_⟩, ((kS.trans k2).trans (k3.mono hX1)).trans (k4.mono hX1)⟩
    obtain ⟨b, g1, g2⟩ := C4.out
    exact ⟨b, g1, repNm.G_move (Same.refl (fun _ => False) K4) (fun i h _ => ⟨h.1, fun h => h⟩) g2⟩
   by_cases d1 : ¬ k1 = 6
   · have c1 : callA k1 x1 O = O := by simp [callA, d1]
     obtain ⟨r1, r2, K3, K4, e3, z3, z4, z5, e4, hf⟩ := fin K1 (Same.none kp) (by omega) z0 (by rw [c1]; exact ⟨q1', q2', q3', b, q4', repNm.G_move kp (fun i h hl => ⟨⟨h, by omega⟩, fun h => h⟩) q5⟩)
     simp [ht, u1, u2, u3, u7, u8, z0, d1, z3, e3, z4, z5, e4, g9, hw]
     exact ⟨m - 1, by omega, i + 1, by omega, by simp [ht], by rw [ct]; exact hf.1, hf.2⟩
   have d1 : k1 = 6 := Classical.not_not.1 d1
   cases d2 : hasN x1 O with
   | true =>
    have c1 : callA k1 x1 O = O := by simp [callA, d2]
    obtain ⟨r1, r2, K3, K4, e3, z3, z4, z5, e4, hf⟩ := fin K1 (Same.none kp) (by omega) z0 (by rw [c1]; exact ⟨q1', q2', q3', b, q4', repNm.G_move kp (fun i h hl => ⟨⟨h, by omega⟩, fun h => h⟩) q5⟩)
    rw [d2] at lk
    simp [ht, u1, u2, u3, u7, u8, z0, d1, q1', lk, z3, e3, z4, z5, e4, g9, hw]
    exact ⟨m - 1, by omega, i + 1, by omega, by simp [ht], by rw [ct]; exact hf.1, hf.2⟩
   | false =>
    rw [d2] at lk
    have mp := mp_kn q2' d2
    have c1 : callA k1 x1 O = O ++ [x1] := by simp [callA, d1, d2]
    have kM : Same (fun i => i = B + 1) K1 (K1.set (B + 1) (.map (kn (O ++ [x1])))) := Same.set (X := fun i => i = B + 1) K1 (by omega) rfl _
    have gM : (K1.set (B + 1) (.map (kn (O ++ [x1])))).get (B + 1) = .map (kn (O ++ [x1])) := Heap.get_set_self _ _ (by omega)
    have nM : (K1.set (B + 1) (.map (kn (O ++ [x1])))).n = K.n + 1 := by simp [n1]
    generalize hK2 : K1.set (B + 1) (.map (kn (O ++ [x1]))) = K2 at *
    have m1 := kM.at q1' (by simp) (by omega)
    have m3 := kM.at q3' (by simp) (by omega)
    have m4 := kM.at q4' (by simp) (by omega)
    have mz := kM.at z0 (by simp) (by omega)
    have G2 : repNm.G K2 (fun i => S i ∧ i ≠ K.n) (.slice b O.length O.length) O := repNm.G_move ((Same.none kp).trans kM) (fun i h hl => ⟨⟨h, by omega⟩, by have := hS4 i h; omega⟩) q5
    obtain ⟨v', K4, e5, G5, k5⟩ := repNm.G_app tf_nm G2 (fun i h => ⟨hS i (by omega), by omega⟩) (by omega) (a := x1) (c := [.string x1]) rfl
    have vS : ∀ i, vid (.slice b O.length O.length) i → S i ∧ i ≠ K.n := fun i hi => (repNm.G_lt G2 hi).2
    obtain ⟨b5, rfl⟩ := repNm.G_slice G5
    have hlen : (O ++ [x1]).length = O.length + 1 := by simp
    rw [hlen] at e5 G5
    have hk0 : repNm.k = 1 := rfl
    rw [hk0] at e5
    have hB4 : ∀ i, i < B + 4 → ¬ vid (.slice b O.length O.length) i := fun i hi h => by have := hS4 i (vS i h).1; omega
    have s1 := k5.at m1 (by simp) (hB4 _ (by omega))
    have s2 := k5.at gM (by simp) (hB4 _ (by omega))
    have s3 := k5.at m3 (by simp) (hB4 _ (by omega))
    have s4 := k5.at m4 (by simp) (hB4 _ (by omega))
    have sz := k5.at mz (by simp) fun h => (vS _ h).2 rfl
    have n5 := k5.n
    have kB : Same (fun i => i = B) K4 (K4.set B (.row true 0 1 [.slice b5 (O.length + 1) (O.length + 1)])) := Same.set (X := fun i => i = B) K4 (by omega) rfl _
    have gB : (K4.set B (.row true 0 1 [.slice b5 (O.length + 1) (O.length + 1)])).get B = .row true 0 1 [.slice b5 (O.length + 1) (O.length + 1)] := Heap.get_set_self _ _ (by omega)
    have nB : (K4.set B (.row true 0 1 [.slice b5 (O.length + 1) (O.length + 1)])).n = K4.n := by simp
    have kAll : Same (cwX B S) K (K4.set B (.row true 0 1 [.slice b5 (O.length + 1) (O.length + 1)])) := (((Same.none kp).trans (kM.mono fun i h => .inr (.inl h))).trans (k5.mono fun i h => .inr (.inr (vS i h).1))).trans (kB.mono fun i h => .inl h)
    obtain ⟨r1, r2, K6, K7, e3, z3, z4, z5, e4, hf⟩ := fin _ kAll (by omega) (kB.at sz (by simp) (by omega)) (by
     rw [c1]
     refine ⟨kB.at s1 (by simp) (by omega), kB.at s2 (by simp) (by omega), kB.at s3 (by simp) (by omega), b5, by rw [hlen]; exact gB, ?_⟩
     rw [hlen]
     exact repNm.G_move kB (fun i h hl => ⟨h, by have := hS4 i h.1; omega⟩) G5)
    have z0b := kB.at sz (by simp) (by omega)
    simp [ht, u1, u2, u3, u7, u8, z0, d1, q1', lk, mp, m4, mz, e5, s4, s3, sz, z0b, z3, e3, z4, z5, e4, g9, hw]
    exact ⟨m - 1, by omega, i + 1, by omega, by simp [ht], by rw [ct]; exact hf.1, hf.2⟩
 · have e : i = l.length := by omega
   rw [e, List.take_length] at hC
   simp [ht, u1, u2, u3, u7, u8, g9, show ¬ i < l.length by omega]
   exact ⟨hC, kS⟩
theorem walk_run (B : Nat) : ∀ n l, szSs l < n → WalkOK E B l := by
 intro n
 induction n with
 | zero => intro l h; omega
 | succ n ih => exact walk_step hE B n ih
theorem tCalls {l : List Stm} (hl : szSs l ≤ 90000) {H : Heap} {v : Value} (h1 : GS H.n H v l) :
  Gives ((run Try.prog E).call 11 [v] H) fun o H' => ∃ b, o = .val (.slice b (callSs [] l).length (callSs [] l).length) ∧ Same (fun _ => False) H H' ∧ repNm.G H' (fun i => H.n ≤ i) (.slice b (callSs [] l).length (callSs [] l).length) (callSs [] l) := by
 have zs : zeroT Try.prog 38 = some (.slice none 0 0) := by kernel_rfl
 have zm : zeroT Try.prog 72 = some (.map none) := by kernel_rfl
 have zf : zeroT Try.prog 78 = some .nilFunc := by kernel_rfl
 rw [c_tCalls hE, callB, bodyOf]
 obtain ⟨K, hK⟩ : ∃ K, K = (((H.push (.row true 0 1 [.slice none 0 0])).push (.map [])).push (.row true 0 1 [.map (some (H.n + 1))])).push (.row true 0 1 [.func (.func 35) #[] #[.pointer (some ⟨H.n + 1 + 1, 0, none⟩), .pointer (some ⟨H.n, 0, none⟩), .pointer (some ⟨H.n + 1 + 1 + 1, 0, none⟩)]]) := ⟨_, rfl⟩
 have nK : K.n = H.n + 4 := by rw [hK]; rfl
 have kK : Same (fun _ => False) H K := by rw [hK]; exact (((Same.push _ _ _).then_push _).then_push _).then_push _
 have hC : CW H.n K (fun i => H.n + 4 ≤ i) [] := ⟨by rw [hK]; simp [Heap.get_push], by rw [hK]; simp [Heap.get_push, kn], by rw [hK]; simp [Heap.get_push], none, by rw [hK]; simp [Heap.get_push, show ¬ H.n = H.n + 1 + 1 + 1 by omega, show ¬ H.n = H.n + 1 + 1 by omega], .inl ⟨rfl, rfl⟩⟩
 obtain ⟨o, K2, e2, ⟨v2, rfl⟩, C2, k2⟩ := walk_run hE H.n (szSs l + 1) l (by omega) (fun i => H.n + 4 ≤ i) K [] v (fun i h => h) (fun i h => by omega) (by omega) hC (h1.keep kK (fun i h => h.elim)) (by simp; omega)
 obtain ⟨b, g1, g2⟩ := C2.out
 simp [Try.f11, zs, zm, zf]
 rw [← hK]
 have l2 : H.n < K2.n := Heap.lt_of_get g1 (by simp)
 have gS : ∀ o, (K2.set H.n o).get H.n = o := fun o => Heap.get_set_self _ _ l2
 simp [e2, g1, gS]
 exact ⟨(kK.then k2 fun i hi => .inr (by rcases hi with h | h | h <;> omega)).then_set l2 (.inr (by omega)) _, repNm.G_move (Same.set (X := fun i => i = H.n) K2 l2 rfl _) (fun i h _ => ⟨by omega, fun h => by omega⟩) g2⟩
end
def idxP (x : ByteArray) : List Prc → Nat
 | [] => 0
 | p :: l => if p.name = x then 0 else idxP x l + 1
def reachL (f : List ByteArray → ByteArray → Option (Bool × List ByteArray)) (to : ByteArray) : List ByteArray → List ByteArray → Option (Bool × List ByteArray)
 | kn, [] => some (false, kn)
 | kn, x :: l => if x = to then some (true, kn) else (f kn x).bind fun r => if r.1 = true then some (true, r.2) else reachL f to r.2 l
def reachP (ps : List Prc) (to : ByteArray) : Nat → List ByteArray → ByteArray → Option (Bool × List ByteArray)
 | 0, _, _ => none
 | n + 1, kn, x => (ps[idxP x ps]?).elim (some (false, kn)) fun p => if hasN x kn = true then some (false, kn) else reachL (reachP ps to n) to (kn ++ [x]) (callSs [] p.body)
structure RW (s : Src) (to : ByteArray) (cs : List Value) (B : Nat) (K : Heap) (out : List ByteArray) : Prop where
 src : K.get B = .row true 0 1 cs
 to : K.get (B + 1) = .row true 0 1 [.string to]
 map : K.get (B + 2) = .map (kn out)
 known : K.get (B + 3) = .row true 0 1 [.map (some (B + 2))]
 walk : K.get (B + 4) = .row true 0 1 [.func (.func 28) #[] #[.pointer (some ⟨B, 0, none⟩), .pointer (some ⟨B + 3, 0, none⟩), .pointer (some ⟨B + 1, 0, none⟩), .pointer (some ⟨B + 4, 0, none⟩)]]
 rep : RSrc K (fun i => i < B) s cs
theorem RW.keep {s : Src} {to : ByteArray} {cs : List Value} {B : Nat} {K K' : Heap} {out : List ByteArray} (h : RW s to cs B K out) {X : Nat → Prop} (k : Same X K K') (hX : ∀ i, i < B + 5 → ¬ X i) : RW s to cs B K' out :=
 ⟨k.at h.src (by simp) (hX _ (by omega)), k.at h.to (by simp) (hX _ (by omega)), k.at h.map (by simp) (hX _ (by omega)), k.at h.known (by simp) (hX _ (by omega)), k.at h.walk (by simp) (hX _ (by omega)), RSrc.move k (fun i hi _ => ⟨hi, hX _ (by omega)⟩) h.rep⟩
theorem RW.lt {s : Src} {to : ByteArray} {cs : List Value} {B : Nat} {K : Heap} {out : List ByteArray} (h : RW s to cs B K out) : B + 5 ≤ K.n := Heap.lt_of_get h.walk (by simp)
section
variable {E : Hooks} (hE : Plain E)
include hE
theorem c_tIdxP (args : List Value) (H : Heap) : (run Try.prog E).call 29 args H = callB Try.prog E Try.f29 args H := call_B Try.func29 rfl (by decide +kernel) (hE.no _ rfl rfl) args H
theorem c_tR11 (args : List Value) (H : Heap) : (run Try.prog E).call 30 args H = callB Try.prog E Try.f30 args H := call_B Try.func30 rfl (by decide +kernel) (hE.no _ rfl rfl) args H
theorem c_tIdxS (args : List Value) (H : Heap) : (run Try.prog E).call 58 args H = callB Try.prog E Try.f58 args H := call_B Try.func58 rfl (by decide +kernel) (hE.no _ rfl rfl) args H
theorem c_tCont (args : List Value) (H : Heap) : (run Try.prog E).call 31 args H = callB Try.prog E Try.f31 args H := call_B Try.func31 rfl (by decide +kernel) (hE.no _ rfl rfl) args H
theorem c_tR12 (args : List Value) (H : Heap) : (run Try.prog E).call 32 args H = callB Try.prog E Try.f32 args H := call_B Try.func32 rfl (by decide +kernel) (hE.no _ rfl rfl) args H
theorem c_tR1 (args : List Value) (H : Heap) : (run Try.prog E).call 28 args H = callB Try.prog E Try.f28 args H := call_B Try.func28 rfl (by decide +kernel) (hE.no _ rfl rfl) args H
theorem c_tReaches (args : List Value) (H : Heap) : (run Try.prog E).call 9 args H = callB Try.prog E Try.f9 args H := call_B Try.func9 rfl (by decide +kernel) (hE.no _ rfl rfl) args H
theorem idxProc {ps : List Prc} (hl : ps.length ≤ 100000) {H : Heap} {v : Value} (h1 : GT repPrc H v ps) {nid : Nat} {x : ByteArray} (hn : H.get nid = .row true 0 1 [.string x]) :
  Gives ((run Try.prog E).call 29 [v, .func (.func 30) #[] #[.pointer (some ⟨nid, 0, none⟩)]] H) fun o H' => o = .val (.int .i64 (if idxP x ps < ps.length then (idxP x ps : Int) else -1)) ∧ Same (fun _ => False) H H' := by
 obtain ⟨b1, rfl⟩ := h1.slice
 rw [c_tIdxP hE, callB, bodyOf]
 simp [Try.f29]
 refine loop_wp (fun m t K => ∃ i : Nat, i + m = ps.length ∧ rd t 8 = .int .i64 i ∧ idxP x ps = i + idxP x (ps.drop i) ∧ Same (fun _ => False) H K) ps.length ?_ ?_
 · exact ⟨0, by omega, by simp, by simp, Same.refl _ _⟩
 rintro m t K hk ⟨i, hm, g8, hx, kS⟩
 have ht : t.length = 19 := hk.1.trans (by simp [len_Bs])
 have hh := hk.all [0, 1, 7] (by decide +kernel)
 simp at hh
 obtain ⟨u0, u1, u7⟩ := hh
 clear hk
 rcases Nat.lt_or_ge i ps.length with hi | hi
 · obtain ⟨id1, tl1, cs1, rfl, -, -, p1, l1, r1⟩ := (h1.keep kS).at hi
   rw [List.drop_eq_getElem_cons hi] at hx
   generalize ps[i] = X at *
   have hk0 : repPrc.k = 5 := rfl
   rw [hk0] at p1 l1 r1
   obtain ⟨w1, w2, w3, ec, -⟩ := pr_parts r1
   simp only [pc5] at ec
   have hw := wrap64 ((i : Int) + 1) (by omega) (by omega)
   have kp : Same (fun _ => False) K (K.push (.row true 0 1 [.int .i64 X.at_, .string X.name, .slice w1 X.params.length X.params.length, .slice w2 X.vars.length X.vars.length, .slice w3 X.body.length X.body.length])) := Same.push _ _ _
   have gn := (kS.trans kp).at hn (by simp) fun h => h
   simp only [idxP] at hx
   by_cases d : X.name = x
   · rw [if_pos d] at hx
     subst d
     simp [ht, u0, u1, u7, g8, hi, p1, l1, show i * 5 + 5 ≤ ps.length * 5 by omega, ec, z_prc]
     rw [c_tR11 hE, callB, bodyOf]
     simp [Try.f30, ht, u0, u1, u7, g8, gn]
     have hx2 : idxP X.name ps = i := by omega
     simp [hx2, hi]
     exact kS.trans kp
   · rw [if_neg d] at hx
     simp [ht, u0, u1, u7, g8, hi, p1, l1, show i * 5 + 5 ≤ ps.length * 5 by omega, ec, z_prc]
     rw [c_tR11 hE, callB, bodyOf]
     simp [Try.f30, ht, u0, u1, u7, g8, gn, d, hw]
     exact ⟨m - 1, by omega, i + 1, by omega, by simp [ht], by omega, kS.trans kp⟩
 · have e : i = ps.length := by omega
   subst e
   simp only [List.drop_length, idxP] at hx
   simp [ht, u0, u1, u7, g8]
   exact ⟨by omega, kS⟩
def ReachOK (E : Hooks) (s : Src) (to : ByteArray) (cs : List Value) (B : Nat) (f : List ByteArray → ByteArray → Option (Bool × List ByteArray)) : Prop :=
 ∀ out x b out', f out x = some (b, out') → ∀ K, RW s to cs B K out → Gives ((run Try.prog E).call 28 [.string x, .pointer (some ⟨B, 0, none⟩), .pointer (some ⟨B + 3, 0, none⟩), .pointer (some ⟨B + 1, 0, none⟩), .pointer (some ⟨B + 4, 0, none⟩)] K) fun o K' => o = .val (.bool b) ∧ RW s to cs B K' out' ∧ Same (fun i => i = B + 2) K K'
theorem idxNames {s : Src} {to : ByteArray} {cs : List Value} {B : Nat} {f : List ByteArray → ByteArray → Option (Bool × List ByteArray)} (hf : ReachOK E s to cs B f) {l : List ByteArray} (hl : l.length ≤ 100000) {out out' : List ByteArray} {b : Bool}
  (hr : reachL f to out l = some (b, out')) {H : Heap} {v : Value} (hW : RW s to cs B H out) (h1 : repNm.G H (fun i => B + 5 ≤ i) v l) :
  Gives ((run Try.prog E).call 58 [v, .func (.func 32) #[] #[.pointer (some ⟨B + 1, 0, none⟩), .pointer (some ⟨B + 4, 0, none⟩)]] H) fun o K' => ∃ z : Int, o = .val (.int .i64 z) ∧ (0 ≤ z ↔ b = true) ∧ RW s to cs B K' out' ∧ Same (fun i => i = B + 2) H K' := by
 obtain ⟨b1, rfl⟩ := repNm.G_slice h1
 rw [c_tIdxS hE, callB, bodyOf]
 simp [Try.f58]
 refine loop_wp (fun m t K => ∃ (i : Nat) (O : List ByteArray), i + m = l.length ∧ rd t 8 = .int .i64 i ∧ reachL f to O (l.drop i) = some (b, out') ∧ RW s to cs B K O ∧ Same (fun i => i = B + 2) H K) l.length ?_ ?_
 · exact ⟨0, out, by omega, by simp, by simpa using hr, hW, Same.refl _ _⟩
 rintro m t K hk ⟨i, O, hm, g8, hx, hO, kS⟩
 have ht : t.length = 19 := hk.1.trans (by simp [len_Bs])
 have hh := hk.all [0, 1, 7] (by decide +kernel)
 simp at hh
 obtain ⟨u0, u1, u7⟩ := hh
 clear hk
 rcases Nat.lt_or_ge i l.length with hi | hi
 · obtain ⟨id1, tl1, cs1, hbb, -, -, p1, l1, r1⟩ := (GT.of repNm (repNm.G_move (S' := fun i => B + 5 ≤ i) kS (fun i hi _ => ⟨hi, by omega⟩) h1)).at hi
   subst hbb
   rw [List.drop_eq_getElem_cons hi] at hx
   generalize l[i] = X at *
   have hk0 : repNm.k = 1 := rfl
   rw [hk0] at p1 l1 r1
   have ec : (cs1.drop (i * 1)).take 1 = [.string X] := r1
   have hw := wrap64 ((i : Int) + 1) (by omega) (by omega)
   have q1 := hO.to; have q4 := hO.walk
   simp only [Nat.mul_one] at ec l1
   simp only [reachL] at hx
   have hi1 : i < cs1.length := by omega
   have p2 : cs1[i] = .string X := by
    have := congrArg (·[0]?) ec
    simp [List.getElem?_eq_getElem hi1] at this
    exact this
   by_cases d : X = to
   · rw [if_pos d] at hx
     simp only [Option.some.injEq, Prod.mk.injEq] at hx
     obtain ⟨rfl, rfl⟩ := hx
     simp [ht, u0, u1, u7, g8, hi, p1, l1, p2]
     rw [c_tR12 hE, callB, bodyOf]
     simp [Try.f32, ht, u0, u1, u7, g8, q1, q4, d]
     exact ⟨hO, kS⟩
   · rw [if_neg d] at hx
     cases hfx : f O X with
     | none => rw [hfx] at hx; cases hx
     | some r =>
      obtain ⟨b9, O9⟩ := r
      rw [hfx] at hx
      simp only [Option.bind_some] at hx
      obtain ⟨o, K9, e9, rfl, hO9, k9⟩ := hf _ _ _ _ hfx K hO
      simp [ht, u0, u1, u7, g8, hi, p1, l1, p2]
      rw [c_tR12 hE, callB, bodyOf]
      cases b9 with
      | true =>
       simp only [if_true, Option.some.injEq, Prod.mk.injEq] at hx
       obtain ⟨rfl, rfl⟩ := hx
       simp [Try.f32, ht, u0, u1, u7, g8, q1, q4, d, e9]
       exact ⟨hO9, kS.trans k9⟩
      | false =>
       simp at hx
       simp [Try.f32, ht, u0, u1, u7, g8, q1, q4, d, e9, hw]
       exact ⟨m - 1, by omega, i + 1, by omega, by simp [ht], O9, hx, hO9, kS.trans k9⟩
 · have e : i = l.length := by omega
   subst e
   simp only [List.drop_length, reachL, Option.some.injEq, Prod.mk.injEq] at hx
   obtain ⟨rfl, rfl⟩ := hx
   simp [ht, u0, u1, u7, g8]
   exact ⟨hO, kS⟩
theorem contains_run {s : Src} {to : ByteArray} {cs : List Value} {B : Nat} {f : List ByteArray → ByteArray → Option (Bool × List ByteArray)} (hf : ReachOK E s to cs B f) {l : List ByteArray} (hl : l.length ≤ 100000) {out out' : List ByteArray} {b : Bool}
  (hr : reachL f to out l = some (b, out')) {H : Heap} {v : Value} (hW : RW s to cs B H out) (h1 : repNm.G H (fun i => B + 5 ≤ i) v l) :
  Gives ((run Try.prog E).call 31 [v, .func (.func 32) #[] #[.pointer (some ⟨B + 1, 0, none⟩), .pointer (some ⟨B + 4, 0, none⟩)]] H) fun o K' => o = .val (.bool b) ∧ RW s to cs B K' out' ∧ Same (fun i => i = B + 2) H K' := by
 obtain ⟨o, K', e1, z, rfl, hz, hW', k⟩ := idxNames hE hf hl hr hW h1
 obtain ⟨b1, rfl⟩ := repNm.G_slice h1
 rw [c_tCont hE, callB, bodyOf]
 simp [Try.f31, e1]
 refine ⟨?_, hW', k⟩
 cases b <;> simp at hz ⊢ <;> omega
theorem reach_run (s : Src) (to : ByteArray) (cs : List Value) (B : Nat) (hs : SrcSz s) : ∀ n, ReachOK E s to cs B (reachP s.procs to n) := by
 intro n
 induction n with
 | zero => intro out x b out' h; simp [reachP] at h
 | succ n ih =>
  intro out x b out' hr H hW
  have hlt := hW.lt
  have lp := szPs_len s.procs
  have lq := hs.p
  have kp : Same (fun _ => False) H (H.push (.row true 0 1 [.string x])) := Same.push _ _ _
  have hW1 := hW.keep kp (fun i _ h => h)
  have gx : (H.push (.row true 0 1 [.string x])).get H.n = .row true 0 1 [.string x] := Heap.get_push_self _ _
  have n1 : (H.push (.row true 0 1 [.string x])).n = H.n + 1 := rfl
  generalize hH1 : H.push (.row true 0 1 [.string x]) = H1 at *
  obtain ⟨v1, v2, v3, v4, ec, r1, r2, r3, r4⟩ := hW1.rep
  obtain ⟨b1, rfl⟩ := repDcl.G_slice r1; obtain ⟨b2, rfl⟩ := repPrc.G_slice r2; obtain ⟨b3, rfl⟩ := repItm.G_slice r3; obtain ⟨b4, rfl⟩ := repStm.G_slice r4
  have g0 := hW1.src
  rw [ec] at g0
  simp only [sr5] at g0
  obtain ⟨o, H2, e2, rfl, k2⟩ := idxProc hE (by omega) (GT.of repPrc r2) gx
  have hW2 := hW1.keep k2 (fun i _ h => h)
  have gx2 := k2.at gx (by simp) fun h => h
  have gk := hW2.known
  have lk := lk_kn hW2.map x
  rw [c_tR1 hE, callB, bodyOf]
  simp only [reachP] at hr
  rcases Nat.lt_or_ge (idxP x s.procs) s.procs.length with hi | hi
  · rw [if_pos hi] at e2
    rw [List.getElem?_eq_getElem hi] at hr
    simp only [Option.elim_some] at hr
    cases hk : hasN x out with
    | true =>
     rw [hk] at hr lk
     simp at hr
     obtain ⟨rfl, rfl⟩ := hr
     simp [Try.f28]
     rw [hH1]
     simp [g0, e2, gk, gx2, lk, show ¬ ((idxP x s.procs : Int) < 0) by omega]
     exact ⟨hW2, (Same.none kp).trans (Same.none k2)⟩
    | false =>
     rw [hk] at hr lk
     simp at hr
     have mp := mp_kn hW2.map hk
     have l2 : B + 2 < H2.n := by have := hW2.lt; omega
     have k3 : Same (fun i => i = B + 2) H2 (H2.set (B + 2) (.map (kn (out ++ [x])))) := Same.set (X := fun i => i = B + 2) H2 l2 rfl _
     have g3 : (H2.set (B + 2) (.map (kn (out ++ [x])))).get (B + 2) = .map (kn (out ++ [x])) := Heap.get_set_self _ _ l2
     have n3 : (H2.set (B + 2) (.map (kn (out ++ [x])))).n = H2.n := rfl
     generalize hH3 : H2.set (B + 2) (.map (kn (out ++ [x]))) = H3 at *
     have hW3 : RW s to cs B H3 (out ++ [x]) := ⟨k3.at hW2.src (by simp) (by omega), k3.at hW2.to (by simp) (by omega), g3, k3.at hW2.known (by simp) (by omega), k3.at hW2.walk (by simp) (by omega), RSrc.move k3 (fun i hi _ => ⟨hi, by omega⟩) hW2.rep⟩
     have rr : repPrc.G H3 (fun i => i < B) (.slice b2 s.procs.length s.procs.length) s.procs := repPrc.G_move (Same.trans (Same.none k2) k3) (fun i hi _ => ⟨hi, by omega⟩) r2
     have g0' := hW3.src
     rw [ec] at g0'
     simp only [sr5] at g0'
     obtain ⟨id1, tl1, cs1, hbb, -, -, p1, l1, rr1⟩ := (GT.of repPrc rr).at hi
     subst hbb
     obtain ⟨id1', tl1', cs1', hbb', _, hid, p1', rr2⟩ := rr.resolve_left (by simp)
     simp only [Value.slice.injEq, Option.some.injEq, Addr.mk.injEq] at hbb'
     obtain ⟨⟨rfl, -⟩, -⟩ := hbb'
     rw [p1] at p1'
     simp only [AObj.row.injEq, true_and] at p1'
     obtain ⟨rfl, rfl⟩ := p1'
     have rr3 := L_item repPrc rr2 _ hi
     clear rr1
     have hmem := List.getElem_mem hi
     have hpm := szPs_mem hmem
     generalize s.procs[idxP x s.procs] = X at *
     obtain ⟨w1, w2, w3, ec1, -⟩ := pr_parts rr3
     obtain ⟨w1', w2', w3', ec2, -, -, gb⟩ := rr3
     rw [ec1] at ec2
     simp only [pc5, List.cons.injEq, and_true, true_and] at ec2
     obtain ⟨rfl, rfl, rfl⟩ := ec2
     have hk0 : repPrc.k = 5 := rfl
     rw [hk0] at p1 l1 ec1
     simp only [pc5] at ec1
     have p5 : cs1[idxP x s.procs * 5 + 4]? = some (.slice w3 X.body.length X.body.length) := by
      have := congrArg (·[4]?) ec1
      simpa [List.getElem?_take, List.getElem?_drop] using this
     have hbody : szSs X.body ≤ 90000 := by simp only [szP] at hpm; omega
     have gS : GS H3.n H3 (.slice w3 X.body.length X.body.length) X.body := GS.ofG (fun i hi => by have := hW3.lt; have := hi.1; omega) gb
     obtain ⟨o, H4, e4, b9, rfl, k4, g4⟩ := tCalls hE hbody gS
     have hW4 := hW3.keep k4 (fun i _ h => h)
     have hlen := callSs_len [] X.body
     obtain ⟨o, H5, e5, rfl, hW5, k5⟩ := contains_run hE ih (by simp at hlen; omega) hr hW4 (repNm.G_move (Same.refl (fun _ => False) _) (fun i hi _ => ⟨by have := hW3.lt; omega, fun h => h⟩) g4)
     simp [Try.f28]
     rw [hH1]
     simp [g0, e2, gk, gx2, lk, show ¬ ((idxP x s.procs : Int) < 0) by omega, mp]
     simp [g0', hi, p1, l1, p5, e4, e5]
     exact ⟨hW5, ((((Same.none kp).trans (Same.none k2)).trans k3).trans (Same.none k4)).trans k5⟩
  · rw [if_neg (by omega)] at e2
    rw [List.getElem?_eq_none hi] at hr
    simp at hr
    obtain ⟨rfl, rfl⟩ := hr
    simp [Try.f28]
    rw [hH1]
    simp [g0, e2]
    exact ⟨hW2, (Same.none kp).trans (Same.none k2)⟩
theorem tReaches {s : Src} (hs : SrcSz s) {frm to : ByteArray} {n : Nat} {b : Bool} {out' : List ByteArray} (hr : reachP s.procs to n [] frm = some (b, out')) {H : Heap} {S : Nat → Prop} {cs : List Value} (h : RSrc H S s cs) :
  Gives ((run Try.prog E).call 9 [.agg ⟨cs⟩, .string frm, .string to] H) fun o H' => o = .val (.bool b) ∧ Same (fun _ => False) H H' := by
 have zm : zeroT Try.prog 72 = some (.map none) := by kernel_rfl
 have zf : zeroT Try.prog 63 = some .nilFunc := by kernel_rfl
 obtain ⟨v1, v2, v3, v4, ec, -⟩ := id h
 obtain ⟨K, hK⟩ : ∃ K, K = ((((H.push (.row true 0 1 cs)).push (.row true 0 1 [.string to])).push (.map [])).push (.row true 0 1 [.map (some (H.n + 1 + 1))])).push (.row true 0 1 [.func (.func 28) #[] #[.pointer (some ⟨H.n, 0, none⟩), .pointer (some ⟨H.n + 1 + 1 + 1, 0, none⟩), .pointer (some ⟨H.n + 1, 0, none⟩), .pointer (some ⟨H.n + 1 + 1 + 1 + 1, 0, none⟩)]]) := ⟨_, rfl⟩
 have nK : K.n = H.n + 5 := by rw [hK]; rfl
 have kK : Same (fun _ => False) H K := by rw [hK]; exact ((((Same.push _ _ _).then_push _).then_push _).then_push _).then_push _
 have hW : RW s to cs H.n K [] := by
  refine ⟨?_, ?_, ?_, ?_, ?_, RSrc.move kK (fun i _ hl => ⟨hl, fun h => h⟩) h⟩
  · rw [hK]; simp [Heap.get_push, show ¬ H.n = H.n + 1 + 1 + 1 by omega, show ¬ H.n = H.n + 1 + 1 by omega, show ¬ H.n = H.n + 1 + 1 + 1 + 1 by omega]
  · rw [hK]; simp [Heap.get_push, show ¬ H.n = H.n + 1 + 1 + 1 by omega, show ¬ H.n = H.n + 1 + 1 by omega]
  · rw [hK]; simp [Heap.get_push, kn, show ¬ H.n = H.n + 1 + 1 by omega]
  · rw [hK]; simp [Heap.get_push]
  · rw [hK]; simp [Heap.get_push]
 obtain ⟨o, K2, e2, rfl, hW2, k2⟩ := reach_run hE s to cs H.n hs n [] frm b out' hr K hW
 rw [ec] at *
 simp only [sr5] at *
 rw [c_tReaches hE, callB, bodyOf]
 simp [Try.f9, zm, zf]
 rw [← hK]
 simp [e2]
 exact kK.then k2 fun i hi => .inr (by omega)
end
end Go.Vm.Tree
namespace Go.Vm.Ring
open Go Go.Proofs Go.Vm.Parse Go.Vm.Tree
def succ (ps : List Prc) (x : ByteArray) : List ByteArray := (ps[idxP x ps]?).elim [] fun p => callSs [] p.body
inductive Reach (ps : List Prc) : ByteArray → ByteArray → Prop
 | one {x y : ByteArray} : y ∈ succ ps x → Reach ps x y
 | step {x y z : ByteArray} : y ∈ succ ps x → Reach ps y z → Reach ps x z
theorem Reach.trans {ps : List Prc} {x y z : ByteArray} (h : Reach ps x y) (k : Reach ps y z) : Reach ps x z := by
 induction h with
 | one e => exact .step e k
 | step e _ ih => exact .step e (ih k)
theorem Reach.snoc {ps : List Prc} {x y z : ByteArray} (h : Reach ps x y) (k : z ∈ succ ps y) : Reach ps x z := h.trans (.one k)
theorem Reach.last {ps : List Prc} {x z : ByteArray} (h : Reach ps x z) : ∃ y, z ∈ succ ps y := by
 induction h with
 | one e => exact ⟨_, e⟩
 | step _ _ ih => exact ih
theorem idxP_at {x : ByteArray} : ∀ {l : List Prc} (h : idxP x l < l.length), l[idxP x l].name = x
 | [], h => absurd h (Nat.not_lt_zero _)
 | p :: l, h => by
  simp only [idxP]
  by_cases e : p.name = x
  · simp only [idxP, if_pos e]; simpa using e
  · simp only [idxP, if_neg e] at h ⊢
    simp only [List.getElem_cons_succ]
    exact idxP_at (by simpa using h)
theorem succ_mem {ps : List Prc} {x y : ByteArray} (h : y ∈ succ ps x) : ∃ p ∈ ps, p.name = x ∧ succ ps x = callSs [] p.body ∧ y ∈ callSs [] p.body := by
 unfold succ at h ⊢
 rcases Nat.lt_or_ge (idxP x ps) ps.length with hi | hi
 · rw [List.getElem?_eq_getElem hi] at h ⊢
   exact ⟨ps[idxP x ps], List.getElem_mem hi, idxP_at hi, rfl, h⟩
 · rw [List.getElem?_eq_none hi] at h
   cases h
def left (ps : List Prc) (kn : List ByteArray) : Nat := (ps.filter fun p => !hasN p.name kn).length
theorem hasN_mono {x : ByteArray} {a b : List ByteArray} (h : ∀ y ∈ a, y ∈ b) (e : hasN x a = true) : hasN x b = true := hasN_iff.2 (h _ (hasN_iff.1 e))
theorem left_mono {a b : List ByteArray} (h : ∀ y ∈ a, y ∈ b) : ∀ ps : List Prc, left ps b ≤ left ps a
 | [] => Nat.le_refl _
 | p :: ps => by
  have ih := left_mono h ps
  unfold left at *
  by_cases e : hasN p.name a = true
  · have := hasN_mono h e
    simp only [List.filter_cons, e, this]
    exact ih
  · have e' : hasN p.name a = false := by simpa using e
    simp only [List.filter_cons, e', Bool.not_false, if_true, List.length_cons]
    split <;> (try simp only [List.length_cons]) <;> omega
theorem left_lt {x : ByteArray} {kn : List ByteArray} (hx : hasN x kn = false) : ∀ {ps : List Prc}, (∃ p ∈ ps, p.name = x) → left ps (kn ++ [x]) < left ps kn
 | [], h => by obtain ⟨p, h, _⟩ := h; cases h
 | p :: ps, h => by
  have hm := left_mono (a := kn) (b := kn ++ [x]) (fun y hy => by simp [hy]) ps
  unfold left at *
  by_cases e : p.name = x
  · have h1 : hasN p.name kn = false := by rw [e]; exact hx
    have h2 : hasN p.name (kn ++ [x]) = true := hasN_iff.2 (by simp [e])
    simp only [List.filter_cons, h1, h2, Bool.not_false, Bool.not_true, if_true, List.length_cons]
    simp only [Bool.false_eq_true, if_false]
    omega
  · obtain ⟨q, hq, hn⟩ := h
    have hq' : q ∈ ps := by
     rcases List.mem_cons.1 hq with rfl | h
     · exact absurd hn e
     · exact h
    have ih := left_lt hx ⟨q, hq', hn⟩
    unfold left at ih
    have h2 : hasN p.name (kn ++ [x]) = hasN p.name kn := by
     cases h3 : hasN p.name kn with
     | true => exact hasN_mono (fun y hy => by simp [hy]) h3
     | false =>
      cases h4 : hasN p.name (kn ++ [x]) with
      | false => rfl
      | true =>
       have := hasN_iff.1 h4
       simp only [List.mem_append, List.mem_cons, List.not_mem_nil, or_false] at this
       rcases this with h | h
       · rw [hasN_iff.2 h] at h3; cases h3
       · exact absurd h e
    simp only [List.filter_cons, h2]
    split <;> (try simp only [List.length_cons]) <;> omega
structure Left (ps : List Prc) (to : ByteArray) (a b : List ByteArray) : Prop where
 sub : ∀ y ∈ a, y ∈ b
 all : ∀ z ∈ b, z ∉ a → ∀ y ∈ succ ps z, y ≠ to ∧ (y ∈ b ∨ succ ps y = [])
theorem Left.refl (ps : List Prc) (to : ByteArray) (a : List ByteArray) : Left ps to a a := ⟨fun _ h => h, fun z h k => absurd h k⟩
theorem Left.trans {ps : List Prc} {to : ByteArray} {a b c : List ByteArray} (h : Left ps to a b) (k : Left ps to b c) : Left ps to a c :=
 ⟨fun y hy => k.sub y (h.sub y hy), fun z hz hn y hy => by
  by_cases hb : z ∈ b
  · obtain ⟨h1, h2⟩ := h.all z hb hn y hy
    exact ⟨h1, h2.imp (k.sub y) id⟩
  · exact k.all z hz hb y hy⟩
def DfsOK (ps : List Prc) (to : ByteArray) (n : Nat) : Prop := ∀ kn x, left ps kn < n → ∃ b kn', reachP ps to n kn x = some (b, kn') ∧ (∀ y ∈ kn, y ∈ kn') ∧
 (b = true → Reach ps x to) ∧ (b = false → Left ps to kn kn' ∧ (x ∈ kn' ∨ succ ps x = []))
theorem dfs_list {ps : List Prc} {to : ByteArray} {n : Nat} (ok : DfsOK ps to n) : ∀ (l kn : List ByteArray), left ps kn < n → ∃ b kn', reachL (reachP ps to n) to kn l = some (b, kn') ∧ (∀ y ∈ kn, y ∈ kn') ∧
  (b = true → ∃ y ∈ l, y = to ∨ Reach ps y to) ∧ (b = false → Left ps to kn kn' ∧ ∀ y ∈ l, y ≠ to ∧ (y ∈ kn' ∨ succ ps y = []))
 | [], kn, h => ⟨false, kn, rfl, fun _ h => h, fun h => (by cases h), fun _ => ⟨Left.refl _ _ _, fun y h => by cases h⟩⟩
 | x :: l, kn, h => by
  by_cases e : x = to
  · exact ⟨true, kn, by simp [reachL, e], fun _ h => h, fun _ => ⟨x, by simp, .inl e⟩, fun h => by cases h⟩
  · obtain ⟨b, k1, e1, s1, t1, f1⟩ := ok kn x h
    cases b with
    | true => exact ⟨true, k1, by simp [reachL, e, e1], s1, fun _ => ⟨x, by simp, .inr (t1 rfl)⟩, fun h => by cases h⟩
    | false =>
     obtain ⟨L1, x1⟩ := f1 rfl
     have hm := left_mono L1.sub ps
     obtain ⟨b2, k2, e2, s2, t2, f2⟩ := dfs_list ok l k1 (by omega)
     refine ⟨b2, k2, by simp [reachL, e, e1, e2], fun y hy => s2 y (s1 y hy), fun hb => ?_, fun hb => ?_⟩
     · obtain ⟨y, hy, h⟩ := t2 hb
       exact ⟨y, by simp [hy], h⟩
     · obtain ⟨L2, h2⟩ := f2 hb
       refine ⟨L1.trans L2, fun y hy => ?_⟩
       rcases List.mem_cons.1 hy with rfl | hy
       · exact ⟨e, x1.imp (L2.sub _) id⟩
       · exact h2 y hy
theorem dfs_ok (ps : List Prc) (to : ByteArray) : ∀ n, DfsOK ps to n
 | 0 => fun kn x h => absurd h (Nat.not_lt_zero _)
 | n + 1 => fun kn x h => by
  rcases Nat.lt_or_ge (idxP x ps) ps.length with hi | hi
  · have hs : succ ps x = callSs [] ps[idxP x ps].body := by unfold succ; rw [List.getElem?_eq_getElem hi]; rfl
    cases hk : hasN x kn with
    | true => exact ⟨false, kn, by simp [reachP, hi, hk], fun _ h => h, fun h => (by cases h), fun _ => ⟨Left.refl _ _ _, .inl (hasN_iff.1 hk)⟩⟩
    | false =>
     have hl := left_lt hk ⟨ps[idxP x ps], List.getElem_mem hi, idxP_at hi⟩
     obtain ⟨b, k1, e1, s1, t1, f1⟩ := dfs_list (dfs_ok ps to n) (callSs [] ps[idxP x ps].body) (kn ++ [x]) (by omega)
     refine ⟨b, k1, by simp [reachP, hi, hk, e1], fun y hy => s1 y (by simp [hy]), fun hb => ?_, fun hb => ?_⟩
     · obtain ⟨y, hy, h⟩ := t1 hb
       rw [← hs] at hy
       rcases h with rfl | h
       · exact .one hy
       · exact .step hy h
     · obtain ⟨L1, h1⟩ := f1 hb
       refine ⟨⟨fun y hy => s1 y (by simp [hy]), fun z hz hn y hy => ?_⟩, .inl (s1 x (by simp))⟩
       by_cases hzx : z = x
       · subst hzx
         rw [hs] at hy
         exact h1 y hy
       · exact L1.all z hz (by simp [hn, hzx]) y hy
  · have hs : succ ps x = [] := by unfold succ; rw [List.getElem?_eq_none hi]; rfl
    exact ⟨false, kn, by simp [reachP, hi], fun _ h => h, fun h => (by cases h), fun _ => ⟨Left.refl _ _ _, .inr hs⟩⟩
theorem not_reach {ps : List Prc} {to : ByteArray} {C : List ByteArray} (h : ∀ z ∈ C, ∀ y ∈ succ ps z, y ≠ to ∧ (y ∈ C ∨ succ ps y = [])) {x z : ByteArray} (r : Reach ps x z) : z = to → (x ∈ C ∨ succ ps x = []) → False := by
 induction r with
 | one e =>
  rintro rfl (hx | hx)
  · exact (h _ hx _ e).1 rfl
  · rw [hx] at e; cases e
 | step e _ ih =>
  rintro rfl (hx | hx)
  · exact ih rfl (h _ hx _ e).2
  · rw [hx] at e; cases e
theorem reach_dfs (ps : List Prc) (to x : ByteArray) : ∃ b kn', reachP ps to (ps.length + 1) [] x = some (b, kn') ∧ (b = true ↔ Reach ps x to) := by
 have hl : left ps [] < ps.length + 1 := by have := List.length_filter_le (fun p : Prc => !hasN p.name []) ps; unfold left; omega
 obtain ⟨b, k, e, _, t, f⟩ := dfs_ok ps to _ [] x hl
 refine ⟨b, k, e, t, fun r => ?_⟩
 cases b with
 | true => rfl
 | false =>
  obtain ⟨L, hx⟩ := f rfl
  exact (not_reach (fun z hz => L.all z hz (by simp)) r rfl hx).elim
def load (ps : List Prc) (out : List ByteArray) : Nat := sum (fun p => if hasN p.name out = true then 0 else (callSs [] p.body).length) ps
theorem load_mono {a b : List ByteArray} (h : ∀ y ∈ a, y ∈ b) : ∀ ps : List Prc, load ps b ≤ load ps a
 | [] => Nat.le_refl _
 | p :: ps => by
  have ih := load_mono h ps
  unfold load at *
  simp only [sum]
  by_cases e : hasN p.name a = true
  · rw [if_pos e, if_pos (hasN_mono h e)]; omega
  · rw [if_neg e]; split <;> omega
theorem load_new {x : ByteArray} {out : List ByteArray} (hx : hasN x out = false) : ∀ {ps : List Prc}, (∀ p ∈ ps, p.name = x → True) → ∀ p ∈ ps, p.name = x → load ps (out ++ [x]) + (callSs [] p.body).length ≤ load ps out
 | [], _, p, h, _ => by cases h
 | q :: ps, _, p, h, hn => by
  have hm := load_mono (a := out) (b := out ++ [x]) (fun y hy => by simp [hy]) ps
  have hxx : hasN x (out ++ [x]) = true := hasN_iff.2 (by simp)
  unfold load at *
  simp only [sum]
  rcases List.mem_cons.1 h with rfl | h
  · rw [hn, if_pos hxx, hx, if_neg (by simp)]; omega
  · have ih := load_new hx (ps := ps) (fun _ _ _ => trivial) p h hn
    unfold load at ih
    by_cases e : hasN q.name out = true
    · rw [if_pos e, if_pos (hasN_mono (fun y hy => by simp [hy]) e)]; omega
    · rw [if_neg e]; split <;> omega
theorem load_succ {ps : List Prc} {x : ByteArray} {out : List ByteArray} (hx : hasN x out = false) : load ps (out ++ [x]) + (succ ps x).length ≤ load ps out := by
 rcases Nat.lt_or_ge (idxP x ps) ps.length with hi | hi
 · have hs : succ ps x = callSs [] ps[idxP x ps].body := by unfold succ; rw [List.getElem?_eq_getElem hi]; rfl
   rw [hs]
   exact load_new hx (fun _ _ _ => trivial) _ (List.getElem_mem hi) (idxP_at hi)
 · have hs : succ ps x = [] := by unfold succ; rw [List.getElem?_eq_none hi]; rfl
   rw [hs]
   have := load_mono (a := out) (b := out ++ [x]) (fun y hy => by simp [hy]) ps
   simp; omega
structure Bfs (ps : List Prc) (x : ByteArray) (out todo : List ByteArray) : Prop where
 r1 : ∀ y ∈ out, Reach ps x y
 r2 : ∀ y ∈ todo, Reach ps x y
 c1 : ∀ y ∈ succ ps x, y ∈ out ∨ y ∈ todo
 c2 : ∀ z ∈ out, ∀ y ∈ succ ps z, y ∈ out ∨ y ∈ todo
 len : out.length + todo.length + load ps out ≤ (succ ps x).length + load ps []
theorem Bfs.init (ps : List Prc) (x : ByteArray) : Bfs ps x [] (succ ps x) :=
 ⟨fun y h => (by cases h), fun y h => .one h, fun y h => .inr h, fun z h => (by cases h), by simp⟩
theorem Bfs.drop {ps : List Prc} {x y : ByteArray} {out todo : List ByteArray} (h : Bfs ps x out (y :: todo)) (hy : hasN y out = true) : Bfs ps x out todo := by
 have hy' := hasN_iff.1 hy
 have mv : ∀ z, z ∈ out ∨ z ∈ y :: todo → z ∈ out ∨ z ∈ todo := fun z hz => by
  rcases hz with hz | hz
  · exact .inl hz
  · rcases List.mem_cons.1 hz with rfl | hz
    · exact .inl hy'
    · exact .inr hz
 exact ⟨h.r1, fun z hz => h.r2 z (by simp [hz]), fun z hz => mv z (h.c1 z hz), fun w hw z hz => mv z (h.c2 w hw z hz), by have := h.len; simp only [List.length_cons] at this; omega⟩
theorem Bfs.take {ps : List Prc} {x y : ByteArray} {out todo : List ByteArray} (h : Bfs ps x out (y :: todo)) (hy : hasN y out = false) : Bfs ps x (out ++ [y]) (todo ++ succ ps y) := by
 have mv : ∀ z, z ∈ out ∨ z ∈ y :: todo → z ∈ out ++ [y] ∨ z ∈ todo ++ succ ps y := fun z hz => by
  rcases hz with hz | hz
  · exact .inl (by simp [hz])
  · rcases List.mem_cons.1 hz with rfl | hz
    · exact .inl (by simp)
    · exact .inr (by simp [hz])
 have ry := h.r2 y (by simp)
 have hl := load_succ (ps := ps) hy
 refine ⟨fun z hz => ?_, fun z hz => ?_, fun z hz => mv z (h.c1 z hz), fun w hw z hz => ?_, ?_⟩
 · rcases List.mem_append.1 hz with hz | hz
   · exact h.r1 z hz
   · simp only [List.mem_cons, List.not_mem_nil, or_false] at hz; rw [hz]; exact ry
 · rcases List.mem_append.1 hz with hz | hz
   · exact h.r2 z (by simp [hz])
   · exact ry.snoc hz
 · rcases List.mem_append.1 hw with hw | hw
   · exact mv z (h.c2 w hw z hz)
   · simp only [List.mem_cons, List.not_mem_nil, or_false] at hw
     rw [hw] at hz
     exact .inr (by simp [hz])
 · have := h.len
   simp only [List.length_cons, List.length_append, List.length_nil] at this ⊢
   omega
theorem Bfs.done {ps : List Prc} {x : ByteArray} {out : List ByteArray} (h : Bfs ps x out []) (z : ByteArray) : hasN z out = true ↔ Reach ps x z := by
 rw [hasN_iff]
 refine ⟨h.r1 z, fun r => ?_⟩
 have key : ∀ {a b : ByteArray}, Reach ps a b → (∀ y ∈ succ ps a, y ∈ out) → b ∈ out := by
  intro a b r
  induction r with
  | one e => exact fun k => k _ e
  | step e _ ih => exact fun k => ih fun y hy => by simpa using h.c2 _ (k _ e) y hy
 exact key r fun y hy => by simpa using h.c1 y hy
end Go.Vm.Ring
namespace Go.Vm.Ring
open Go Go.Proofs Go.Vm.Parse Go.Vm.Tree
attribute [local simp] repCells_succ writeAt rd_Fr toList_beq gpe gpn spe gse gsn
theorem strT : Nm.StrT Try.prog 38 9 := ⟨by simp, by simp, by simp, by simp, by kernel_rfl⟩
theorem pl_rcalls : planOf Try.prog (drawN Try.f27 0) = some [some (0, 1), some (0, 1), some (0, 1), some (0, 1), some (0, 1), none, none, none, none, none, none, none, none, none] := by decide +kernel
section
variable {E : Hooks} (hE : Plain E)
include hE
theorem c_rHas (args : List Value) (H : Heap) : (run Try.prog E).call 33 args H = callB Try.prog E Try.f33 args H := call_B Try.func33 rfl (by decide +kernel) (hE.no _ rfl rfl) args H
theorem c_rcalls (args : List Value) (H : Heap) : (run Try.prog E).call 27 args H = callB Try.prog E Try.f27 args H := call_B Try.func27 rfl (by decide +kernel) (hE.no _ rfl rfl) args H
theorem c_rCalls (args : List Value) (H : Heap) : (run Try.prog E).call 8 args H = callB Try.prog E Try.f8 args H := call_B Try.func8 rfl (by decide +kernel) (hE.no _ rfl rfl) args H
theorem c_rBody (args : List Value) (H : Heap) : (run Try.prog E).call 59 args H = callB Try.prog E Try.f59 args H := call_B Try.func59 rfl (by decide +kernel) (hE.no _ rfl rfl) args H
theorem rHas {H : Heap} {v : Value} {l : List ByteArray} (g : Nm.SL H v l) (hl : l.length ≤ 1000000) (x : ByteArray) : (run Try.prog E).call 33 [v, .string x] H = some (.val (.bool (hasN x l)), H) := by
 suffices key : Gives ((run Try.prog E).call 33 [v, .string x] H) fun o H' => o = .val (.bool (hasN x l)) ∧ H' = H by
  obtain ⟨o, H', e, rfl, rfl⟩ := key
  exact e
 rw [c_rHas hE, callB, bodyOf]
 obtain ⟨b, c, rfl, _⟩ := id g
 simp [Try.f33]
 refine loop_wp (fun m t K => K = H ∧ ∃ k, k ≤ l.length ∧ m = l.length - k ∧ rd t 5 = .int .i64 k ∧ hasN x l = hasN x (l.drop k)) l.length ?_ ?_
 · exact ⟨rfl, 0, Nat.zero_le _, by simp, by simp, by simp⟩
 · rintro m t K hk ⟨rfl, k, hkl, rfl, g5, hh⟩
   have ht : t.length = 18 := hk.1.trans (by simp [len_Bs])
   have hh0 := hk.all [0, 1] (by decide +kernel)
   simp at hh0
   obtain ⟨u0, u1⟩ := hh0
   rcases Nat.lt_or_ge k l.length with hlt | hge
   · obtain ⟨-, r, off, own, tl, es, cs, hb, hrow, hle, hc1⟩ := g.at hlt
     subst hb
     have hd : l.drop k = l[k] :: l.drop (k + 1) := List.drop_eq_getElem_cons hlt
     rw [hd] at hh
     generalize l[k] = y at *
     have w1 : IntKind.i64.wrap ((k : Int) + 1) = (k : Int) + 1 := wrap64 _ (by omega) (by omega)
     have hc2 : cs[off + k]'(by omega) = .string y := (List.getElem?_eq_some_iff.1 hc1).2
     have hoff : off + k < cs.length := by omega
     simp only [hasN] at hh
     by_cases hy : y = x
     · simp [hy] at hh
       subst hy
       simp [ht, u0, u1, g5, hlt, hrow, hle, hc2, hh, hoff]
     · have hy' : ¬ x = y := fun e => hy e.symm
       simp [hy'] at hh
       simp [ht, u0, u1, g5, hlt, hrow, hle, hc2, hy, w1, hoff]
       exact ⟨l.length - (k + 1), by omega, k + 1, by omega, rfl, by simp [ht], hh⟩
   · simp [ht, u0, u1, g5, show ¬ k < l.length by omega]
     rw [hh, List.drop_eq_nil_of_le hge]
     rfl
def RcOK (E : Hooks) (l : List Stm) : Prop := ∀ (B : Nat) (H : Heap) (out : List ByteArray) (v w : Value) (r : Option Nat), B ≤ H.n → (∀ i, r = some i → B ≤ i) → GS B H w l → Nm.GL H v out r → out.length + szSs l ≤ 90000 →
 Gives ((run Try.prog E).call 27 [w, v] H) fun o H' => ∃ v' r', o = .val v' ∧ Nm.GL H' v' (callSs out l) r' ∧ Same (fun i => r = some i) H H' ∧ Newer H r r'
theorem rcalls_step (n : Nat) (ih : ∀ a, szSs a < n → RcOK E a) : ∀ l, szSs l < n + 1 → RcOK E l := by
 intro l hn B H out v w r hB hr h1 hg hsz
 have ll := szSs_len l
 obtain ⟨b1, rfl⟩ := h1.slice
 rw [c_rcalls hE, callB, bodyOf]
 simp [Try.f27]
 refine loop_wp (fun m t K => ∃ (i : Nat) (v' : Value) (r' : Option Nat), i + m = l.length ∧ rd t 5 = .int .i64 i ∧ rd t 1 = v' ∧ Nm.GL K v' (callSs out (l.take i)) r' ∧ Same (fun i => r = some i) H K ∧ Newer H r r') l.length ?_ ?_
 · exact ⟨0, v, r, by omega, by simp, by simp, by simpa [callSs] using hg, Same.refl _ _, Newer.refl _ _⟩
 rintro m t K hk ⟨i, v', r', hm, g5, g1, hG, kS, hnw⟩
 have ht : t.length = 50 := hk.1.trans (by simp [len_Bs])
 have hh := hk.all [0] (by decide +kernel)
 simp at hh
 clear hk
 have hKn := kS.n
 have hr' : ∀ i, r' = some i → B ≤ i := fun i hi => (hnw i hi).elim (fun h => hr i h) (fun h => by omega)
 rcases Nat.lt_or_ge i l.length with hi | hi
 · have h1K := h1.keep kS fun i hi => hr i hi
   obtain ⟨id1, tl1, cs1, rfl, b1', p1, l1, r1⟩ := h1K.at hi
   have hm1 := szs_mem (List.getElem_mem hi)
   have ct := callSs_take out l i hi
   have cl := callSs_len out (l.take i)
   have sl : szSs (l.take i) + szS l[i] ≤ szSs l := by
    have e : l = l.take i ++ l[i] :: l.drop (i + 1) := by rw [← List.drop_eq_getElem_cons hi, List.take_append_drop]
    have ap : ∀ a b : List Stm, szSs (a ++ b) = szSs a + szSs b := fun a b => by
     induction a with
     | nil => simp [szSs]
     | cons x a ih => simp only [List.cons_append, szSs, ih]; omega
    conv => rhs; rw [e, ap]
    simp only [szSs]; omega
   generalize l[i] = X at *
   generalize callSs out (l.take i) = O at *
   obtain ⟨k1, a1, x1, e1, bd1, el1, br1, it1, hx⟩ : ∃ k1 a1 x1 e1 bd1 el1 br1 it1, X = Stm.mk k1 a1 x1 e1 bd1 el1 br1 it1 := by cases X; exact ⟨_, _, _, _, _, _, _, _, rfl⟩
   subst hx
   obtain ⟨w1, w2, w3, w4, w5, ec, G3, G4⟩ := st_gs r1
   simp only [szS] at hm1 sl
   simp only [callS] at ct
   have hw := wrap64 ((i : Int) + 1) (by omega) (by omega)
   have al : (callA k1 x1 O).length ≤ O.length + 1 := by unfold callA; split <;> simp
   have bl := callSs_len (callA k1 x1 O) bd1
   have pz : ∀ j, j < 8 → cs1[i * 8 + j]? = ([.int .i64 k1, .int .i64 a1, .string x1, .slice w1 e1.length e1.length, .slice w2 bd1.length bd1.length, .slice w3 el1.length el1.length, .slice w4 br1.length br1.length, .slice w5 it1.length it1.length] : List Value)[j]? := fun j hj => by
    have := congrArg (·[j]?) ec
    simp only [List.getElem?_take, if_pos hj, List.getElem?_drop] at this
    exact this
   have p0 := pz 0 (by omega); have p2 := pz 2 (by omega); have p4 := pz 4 (by omega); have p5 := pz 5 (by omega)
   simp only [Nat.add_zero] at p0
   simp at p0 p2 p4 p5
   have h0 : i * 8 < cs1.length := by omega
   rw [List.getElem?_eq_getElem h0] at p0
   simp only [Option.some.injEq] at p0
   have fin : ∀ K2 v2 r2, Nm.GL K2 v2 (callA k1 x1 O) r2 → Same (fun i => r' = some i) K K2 → Newer K r' r2 →
     ∃ v3 v4 r4 K3 K4, (run Try.prog E).call 27 [.slice w2 bd1.length bd1.length, v2] K2 = some (.val v3, K3) ∧ (run Try.prog E).call 27 [.slice w3 el1.length el1.length, v3] K3 = some (.val v4, K4) ∧
      Nm.GL K4 v4 (callSs (callSs (callA k1 x1 O) bd1) el1) r4 ∧ Same (fun i => r = some i) H K4 ∧ Newer H r r4 ∧ K2.get id1 = .row true tl1 8 cs1 ∧ K3.get id1 = .row true tl1 8 cs1 := by
    intro K2 v2 r2 G2 k2 n2
    have hK2 := k2.n
    have hr2 : ∀ i, r2 = some i → B ≤ i := fun i hi => (n2 i hi).elim (fun h => hr' i h) (fun h => by omega)
    obtain ⟨o3, K3, e3, v3, r3, rfl, G3', k3, n3⟩ := ih bd1 (by omega) B K2 _ _ _ _ (by omega) hr2 (G3.keep k2 fun i hi => hr' i hi) G2 (by omega)
    have hK3 := k3.n
    have hr3 : ∀ i, r3 = some i → B ≤ i := fun i hi => (n3 i hi).elim (fun h => hr2 i h) (fun h => by omega)
    obtain ⟨o4, K4, e4, v4, r4, rfl, G4', k4, n4⟩ := ih el1 (by omega) B K3 _ _ _ _ (by omega) hr3 ((G4.keep k2 fun i hi => hr' i hi).keep k3 fun i hi => hr2 i hi) G3' (by omega)
    have hd1 := Heap.lt_of_get p1 (by simp)
    refine ⟨v3, v4, r4, K3, K4, e3, e4, G4', ?_, ((hnw.trans n2 hKn).trans n3 (by omega)).trans n4 (by omega), k2.at p1 (by simp) fun h => by have := hr' _ h; omega, k3.at (k2.at p1 (by simp) fun h => by have := hr' _ h; omega) (by simp) fun h => by have := hr2 _ h; omega⟩
    refine ((kS.then k2 fun i hi => hnw i hi).then k3 fun i hi => ?_).then k4 fun i hi => ?_
    · exact (hnw.trans n2 hKn) i hi
    · exact ((hnw.trans n2 hKn).trans n3 (by omega)) i hi
   obtain ⟨bv, nv, cv, hv⟩ := hG.sl.slice
   by_cases d1 : ¬ k1 = 6
   · have c1 : callA k1 x1 O = O := by simp [callA, d1]
     obtain ⟨v3, v4, r4, K3, K4, e3, e4, hf1, hf2, hf3, gid, gid3⟩ := fin K v' r' (by rw [c1]; exact hG) (Same.refl _ _) (Newer.refl _ _)
     obtain ⟨q1, q2, q3, q4⟩ := hf1.sl.slice
     simp [ht, hh, g5, hi, p1, l1, p0, d1]
     refine region_plan (by exact pl_rcalls) ?_
     simp [ht, hh, g5, g1, hi, p1, l1, p4, p5, e3, e4, hw, gid3]
     exact ⟨m - 1, by omega, i + 1, by omega, by simp [ht], r4, by rw [ct]; exact hf1, hf2, hf3⟩
   have d1 : k1 = 6 := Classical.not_not.1 d1
   have hhas := rHas hE hG.sl (by omega) x1
   cases d2 : hasN x1 O with
   | true =>
    have c1 : callA k1 x1 O = O := by simp [callA, d2]
    obtain ⟨v3, v4, r4, K3, K4, e3, e4, hf1, hf2, hf3, gid, gid3⟩ := fin K v' r' (by rw [c1]; exact hG) (Same.refl _ _) (Newer.refl _ _)
    rw [d2] at hhas
    simp [ht, hh, g5, g1, hi, p1, l1, p0, p2, d1, hhas]
    refine region_plan (by exact pl_rcalls) ?_
    simp [ht, hh, g5, g1, hi, p1, l1, p4, p5, e3, e4, hw, gid3]
    exact ⟨m - 1, by omega, i + 1, by omega, by simp [ht], r4, by rw [ct]; exact hf1, hf2, hf3⟩
   | false =>
    rw [d2] at hhas
    have c1 : callA k1 x1 O = O ++ [x1] := by simp [callA, d1, d2]
    have kp : Same (fun _ => False) K (K.push (.row true 0 1 [.string x1])) := Same.push _ _ _
    have sx : Nm.SL (K.push (.row true 0 1 [.string x1])) (.slice (some ⟨K.n, 0, none⟩) 1 1) [x1] := ⟨_, 1, rfl, .inr ⟨K.n, 0, true, 0, 1, _, rfl, Heap.get_push_self _ _, by simp, by simp⟩⟩
    obtain ⟨v2, r2, K2, e2, G2, k2, n2⟩ := Nm.grow_run strT (hG.same kp fun _ _ h => h) sx (by simp; omega)
    have k02 : Same (fun i => r' = some i) K K2 := (Same.none kp).trans k2
    have n02 : Newer K r' r2 := n2.le (by simp)
    obtain ⟨v3, v4, r4, K3, K4, e3, e4, hf1, hf2, hf3, gid, gid3⟩ := fin K2 v2 r2 (by rw [c1]; exact G2) k02 n02
    have p1' := gid
    simp [ht, hh, g5, g1, hi, p1, l1, p0, p2, d1, hhas, e2]
    refine region_plan (by exact pl_rcalls) ?_
    simp [ht, hh, g5, g1, hi, p1', l1, p4, p5, e3, e4, hw, gid3]
    exact ⟨m - 1, by omega, i + 1, by omega, by simp [ht], r4, by rw [ct]; exact hf1, hf2, hf3⟩
 · have e : i = l.length := by omega
   rw [e, List.take_length] at hG
   simp [ht, hh, g5, show ¬ i < l.length by omega, g1]
   exact ⟨r', hG, kS, hnw⟩
theorem rcalls_run : ∀ n l, szSs l < n → RcOK E l := by
 intro n
 induction n with
 | zero => intro l h; omega
 | succ n ih => exact rcalls_step hE n ih
theorem rCalls {l : List Stm} (hl : szSs l ≤ 90000) {H : Heap} {v : Value} (h1 : GS H.n H v l) :
  Gives ((run Try.prog E).call 8 [v] H) fun o H' => ∃ v' r', o = .val v' ∧ Nm.GL H' v' (callSs [] l) r' ∧ Same (fun _ => False) H H' ∧ ∀ i, r' = some i → H.n ≤ i := by
 obtain ⟨o, H', e, v', r', rfl, hG, k, hn⟩ := rcalls_run hE _ l (Nat.lt_succ_self _) H.n H [] (.slice none 0 0) v none (Nat.le_refl _) (fun i h => by cases h) h1 (Nm.GL.nil H) (by simp; omega)
 rw [c_rCalls hE, callB, bodyOf]
 simp [Try.f8, e]
 exact ⟨r', hG, ⟨k.n, fun j hj hx => k.get j hj (by simp)⟩, fun i hi => (hn i hi).elim (fun h => by cases h) id⟩
theorem rBody {s : Src} (hs : SrcSz s) {H : Heap} {cs : List Value} (h : RSrc H (fun i => i < H.n) s cs) (x : ByteArray) :
  Gives ((run Try.prog E).call 59 [.agg ⟨cs⟩, .string x] H) fun o H' => ∃ w f l, o = .val (.tuple #[w, .bool f]) ∧ GS H.n H' w l ∧ callSs [] l = succ s.procs x ∧ szSs l ≤ 90000 ∧ Same (fun _ => False) H H' := by
 have lp := szPs_len s.procs
 have lq := hs.p
 obtain ⟨v1, v2, v3, v4, ec, r1, r2, r3, r4⟩ := id h
 obtain ⟨b1, rfl⟩ := repDcl.G_slice r1; obtain ⟨b2, rfl⟩ := repPrc.G_slice r2; obtain ⟨b3, rfl⟩ := repItm.G_slice r3; obtain ⟨b4, rfl⟩ := repStm.G_slice r4
 subst ec
 simp only [sr5] at *
 have kp : Same (fun _ => False) H (H.push (.row true 0 1 [.string s.name, .slice b1 s.decls.length s.decls.length, .slice b2 s.procs.length s.procs.length, .slice b3 s.claims.length s.claims.length, .slice b4 s.body.length s.body.length])) := Same.push _ _ _
 have g0 : (H.push (.row true 0 1 [.string s.name, .slice b1 s.decls.length s.decls.length, .slice b2 s.procs.length s.procs.length, .slice b3 s.claims.length s.claims.length, .slice b4 s.body.length s.body.length])).get H.n = _ := Heap.get_push_self _ _
 have rr : repPrc.G (H.push (.row true 0 1 [.string s.name, .slice b1 s.decls.length s.decls.length, .slice b2 s.procs.length s.procs.length, .slice b3 s.claims.length s.claims.length, .slice b4 s.body.length s.body.length])) (fun i => i < H.n) (.slice b2 s.procs.length s.procs.length) s.procs := repPrc.G_move kp (fun i hi _ => ⟨hi, fun h => h⟩) r2
 rw [c_rBody hE, callB, bodyOf]
 simp [Try.f59]
 generalize hH1 : H.push (.row true 0 1 [.string s.name, .slice b1 s.decls.length s.decls.length, .slice b2 s.procs.length s.procs.length, .slice b3 s.claims.length s.claims.length, .slice b4 s.body.length s.body.length]) = H1 at *
 refine loop_wp (fun m t K => K = H1 ∧ ∃ k, k ≤ s.procs.length ∧ m = s.procs.length - k ∧ rd t 6 = .int .i64 k ∧ idxP x s.procs = k + idxP x (s.procs.drop k)) s.procs.length ?_ ?_
 · exact ⟨rfl, 0, Nat.zero_le _, by simp, by simp, by simp⟩
 rintro m t K hk ⟨rfl, i, hil, rfl, g6, hx⟩
 have ht : t.length = 28 := hk.1.trans (by simp [len_Bs])
 have hh := hk.all [0, 1, 2] (by decide +kernel)
 simp at hh
 obtain ⟨u0, u1, u2⟩ := hh
 clear hk
 rcases Nat.lt_or_ge i s.procs.length with hi | hi
 · obtain ⟨id1, tl1, cs1, hbb, -, -, p1, l1, rr1⟩ := (GT.of repPrc rr).at hi
   subst hbb
   obtain ⟨id1', tl1', cs1', hbb', _, hid, p1', rr2⟩ := rr.resolve_left (by simp)
   simp only [Value.slice.injEq, Option.some.injEq, Addr.mk.injEq] at hbb'
   obtain ⟨⟨rfl, -⟩, -⟩ := hbb'
   rw [p1] at p1'
   simp only [AObj.row.injEq, true_and] at p1'
   obtain ⟨rfl, rfl⟩ := p1'
   have rr3 := L_item repPrc rr2 _ hi
   clear rr1
   have hpm := szPs_mem (List.getElem_mem hi)
   rw [List.drop_eq_getElem_cons hi] at hx
   have hsu : idxP x s.procs = i → succ s.procs x = callSs [] s.procs[i].body := fun e => by unfold succ; rw [e, List.getElem?_eq_getElem hi]; rfl
   generalize s.procs[i] = X at *
   obtain ⟨w1, w2, w3, ec1, -⟩ := pr_parts rr3
   obtain ⟨w1', w2', w3', ec2, -, -, gb⟩ := rr3
   rw [ec1] at ec2
   simp only [pc5, List.cons.injEq, and_true, true_and] at ec2
   obtain ⟨rfl, rfl, rfl⟩ := ec2
   have hk0 : repPrc.k = 5 := rfl
   rw [hk0] at p1 l1 ec1
   simp only [pc5] at ec1
   have pz : ∀ j, j < 5 → cs1[i * 5 + j]? = ([.int .i64 X.at_, .string X.name, .slice w1 X.params.length X.params.length, .slice w2 X.vars.length X.vars.length, .slice w3 X.body.length X.body.length] : List Value)[j]? := fun j hj => by
    have := congrArg (·[j]?) ec1
    simp only [List.getElem?_take, if_pos hj, List.getElem?_drop] at this
    exact this
   have p1c := pz 1 (by omega)
   have p4c := pz 4 (by omega)
   simp at p1c p4c
   have hw := wrap64 ((i : Int) + 1) (by omega) (by omega)
   simp only [idxP] at hx
   by_cases d : X.name = x
   · rw [if_pos d] at hx
     subst d
     simp [ht, u0, u1, u2, g0, g6, hi, p1, l1, p1c, p4c]
     exact ⟨X.body, GS.ofG (fun i hi => hi.1) gb, (hsu (by omega)).symm, by simp only [szP] at hpm; omega, kp⟩
   · rw [if_neg d] at hx
     simp [ht, u0, u1, u2, g0, g6, hi, p1, l1, p1c, d, hw]
     exact ⟨s.procs.length - (i + 1), by omega, i + 1, by omega, rfl, by simp [ht], by omega⟩
 · have e : i = s.procs.length := by omega
   subst e
   simp only [List.drop_length, idxP] at hx
   simp [ht, u0, u1, u2, g0, g6]
   exact ⟨[], .inl ⟨rfl, rfl⟩, by unfold succ; rw [List.getElem?_eq_none (by omega)]; rfl, by simp [szSs], kp⟩
end
theorem load_le (out : List ByteArray) : ∀ ps : List Prc, load ps out ≤ szPs ps
 | [] => Nat.zero_le _
 | p :: ps => by
  have ih := load_le out ps
  have h := callSs_len [] p.body
  simp only [List.length_nil] at h
  unfold load at *
  simp only [sum, szPs, szP]
  split <;> omega
theorem succ_len (ps : List Prc) (x : ByteArray) : (succ ps x).length ≤ szPs ps := by
 unfold succ
 rcases Nat.lt_or_ge (idxP x ps) ps.length with hi | hi
 · rw [List.getElem?_eq_getElem hi]
   have h := callSs_len [] ps[idxP x ps].body
   have := szPs_mem (List.getElem_mem hi)
   simp only [List.length_nil, szP] at *
   simp only [Option.elim_some]; omega
 · rw [List.getElem?_eq_none hi]; exact Nat.zero_le _
theorem GS.of_le {B B' : Nat} {H : Heap} {v : Value} {l : List Stm} (h : GS B H v l) (hb : B ≤ B') : GS B' H v l := by
 refine h.imp id ?_
 rintro ⟨id, tl, cs, h1, h2, h4, h5⟩
 exact ⟨id, tl, cs, h1, by omega, h4, h5.weak fun i hi => by omega⟩
structure BI (s : Src) (x : ByteArray) (H : Heap) (t : List Value) (K : Heap) (out todo : List ByteArray) (vo vt : Value) (ro rt : Option Nat) : Prop where
 b : Bfs s.procs x out todo
 t5 : rd t 5 = vo
 t8 : rd t 8 = vt
 go : Nm.GL K vo out ro
 gt : Nm.GL K vt todo rt
 ne : ∀ i, ro = some i → rt ≠ some i
 oo : ∀ i, ro = some i → H.n ≤ i
 ot : ∀ i, rt = some i → H.n ≤ i
 k : Same (fun _ => False) H K
section
variable {E : Hooks} (hE : Plain E)
include hE
theorem c_rReached (args : List Value) (H : Heap) : (run Try.prog E).call 34 args H = callB Try.prog E Try.f34 args H := call_B Try.func34 rfl (by decide +kernel) (hE.no _ rfl rfl) args H
theorem c_rReaches (args : List Value) (H : Heap) : (run Try.prog E).call 10 args H = callB Try.prog E Try.f10 args H := call_B Try.func10 rfl (by decide +kernel) (hE.no _ rfl rfl) args H
theorem rReached {s : Src} (hs : SrcSz s) {H : Heap} {S : Nat → Prop} {cs : List Value} (h : RSrc H S s cs) (x : ByteArray) :
  Gives ((run Try.prog E).call 34 [.agg ⟨cs⟩, .string x] H) fun o H' => ∃ v out r, o = .val v ∧ Nm.GL H' v out r ∧ out.length ≤ 1000000 ∧ (∀ z, hasN z out = true ↔ Reach s.procs x z) ∧ Same (fun _ => False) H H' := by
 have lq := hs.p
 obtain ⟨v1, v2, v3, v4, ec, r1, r2, r3, r4⟩ := id h
 obtain ⟨b1, rfl⟩ := repDcl.G_slice r1; obtain ⟨b2, rfl⟩ := repPrc.G_slice r2; obtain ⟨b3, rfl⟩ := repItm.G_slice r3; obtain ⟨b4, rfl⟩ := repStm.G_slice r4
 subst ec
 simp only [sr5] at *
 have kp : Same (fun _ => False) H (H.push (.row true 0 1 [.string s.name, .slice b1 s.decls.length s.decls.length, .slice b2 s.procs.length s.procs.length, .slice b3 s.claims.length s.claims.length, .slice b4 s.body.length s.body.length])) := Same.push _ _ _
 have g0 : (H.push (.row true 0 1 [.string s.name, .slice b1 s.decls.length s.decls.length, .slice b2 s.procs.length s.procs.length, .slice b3 s.claims.length s.claims.length, .slice b4 s.body.length s.body.length])).get H.n = _ := Heap.get_push_self _ _
 have n1 : (H.push (.row true 0 1 [.string s.name, .slice b1 s.decls.length s.decls.length, .slice b2 s.procs.length s.procs.length, .slice b3 s.claims.length s.claims.length, .slice b4 s.body.length s.body.length])).n = H.n + 1 := rfl
 rw [c_rReached hE, callB, bodyOf]
 simp [Try.f34]
 generalize hH1 : H.push (.row true 0 1 [.string s.name, .slice b1 s.decls.length s.decls.length, .slice b2 s.procs.length s.procs.length, .slice b3 s.claims.length s.claims.length, .slice b4 s.body.length s.body.length]) = H1 at *
 have src : ∀ {K : Heap}, Same (fun _ => False) H K → RSrc K (fun i => i < K.n) s [.string s.name, .slice b1 s.decls.length s.decls.length, .slice b2 s.procs.length s.procs.length, .slice b3 s.claims.length s.claims.length, .slice b4 s.body.length s.body.length] := fun k => RSrc.move k (fun i _ hl => ⟨by have := k.n; omega, fun h => h⟩) h
 have ke : Same (fun _ => False) H1 (H1.push (.row true 0 1 [])) := Same.push _ _ _
 obtain ⟨o, H3, e3, w3, f3, l3, rfl, gs3, hl3, sz3, k3⟩ := rBody hE hs (src (kp.trans ke)) x
 obtain ⟨wb, rfl⟩ := gs3.slice
 obtain ⟨o, H4, e4, w4, rt, rfl, gl4, k4, n4⟩ := rCalls hE sz3 (GS.of_le gs3 k3.n)
 obtain ⟨wb4, wn4, wc4, rfl⟩ := gl4.sl.slice
 rw [hl3] at gl4
 have g0e : Nm.GL (H1.push (.row true 0 1 [])) (.slice (some ⟨H1.n, 0, none⟩) 0 0) [] (some H1.n) := .inr ⟨H1.n, 0, [], 0, rfl, rfl, Heap.get_push_self _ _, by simp, by simp, .inl rfl⟩
 have g04 := (g0e.same k3 fun _ _ h => h).same k4 fun _ _ h => h
 have lt3 : H1.n < H3.n := by have := k3.n; simp at this; omega
 have hsl := succ_len s.procs x
 have hll := load_le [] s.procs
 simp [e3, e4]
 refine loop_wp (fun m t K => ∃ out todo vo vt ro rt, m = todo.length + load s.procs out ∧ BI s x H1 t K out todo vo vt ro rt) ((succ s.procs x).length + load s.procs []) ?_ ?_
 · exact ⟨[], succ s.procs x, _, _, some H1.n, rt, rfl, Bfs.init _ _, by simp [n1], by simp, g04, gl4, fun i hi h2 => by have := n4 i h2; cases hi; omega, fun i hi => by cases hi; omega, fun i hi => by have := n4 i hi; omega, (ke.trans k3).trans k4⟩
 rintro m t K hk ⟨out, todo, vo, vt, ro, rt', rfl, I⟩
 have ht : t.length = 49 := hk.1.trans (by simp [len_Bs])
 have hh := hk.all [1, 2] (by decide +kernel)
 simp at hh
 obtain ⟨u1, u2⟩ := hh
 clear hk
 have hlen := I.b.len
 have hK := I.k.n
 have g0K := I.k.at g0 (by simp) fun h => h
 have hKt := kp.trans I.k
 cases todo with
 | nil =>
  obtain ⟨b8, c8, rfl⟩ : ∃ b c, vt = .slice b 0 c := by obtain ⟨b, c, h, _⟩ := I.gt.sl; exact ⟨b, c, h⟩
  obtain ⟨b5, c5, rfl⟩ : ∃ b c, vo = .slice b out.length c := by obtain ⟨b, c, h, _⟩ := I.go.sl; exact ⟨b, c, h⟩
  have t5 := I.t5; have t8 := I.t8
  simp [ht, t5, t8]
  exact ⟨out, ⟨ro, I.go⟩, by omega, fun z => I.b.done z, hKt⟩
 | cons y todo =>
  obtain ⟨b8, c8, rfl⟩ : ∃ b c, vt = .slice b (todo.length + 1) c := by obtain ⟨b, c, h, _⟩ := I.gt.sl; exact ⟨b, c, h⟩
  obtain ⟨-, q, off, own, tl, es, qs, rfl, hrow, hle, hc1⟩ := I.gt.sl.at (i := 0) (by simp)
  simp only [Nat.add_zero, List.getElem_cons_zero, List.length_cons] at hc1 hle
  have hoff : off < qs.length := by omega
  have hc2 : qs[off] = .string y := (List.getElem?_eq_some_iff.1 hc1).2
  simp only [List.length_cons] at hlen
  have kp2 : Same (fun _ => False) K (K.push (.row true 0 1 [])) := Same.push _ _ _
  obtain ⟨v6, r6, K6, e6, G6, k6, n6, -⟩ := Nm.tail_run strT (I.gt.same kp2 fun _ _ h => h)
  have hq : ∀ i, rt' = some i → i < K.n := fun i hi => I.gt.lt hi
  have G6e : Nm.GL K6 (.slice (some ⟨K.n, 0, none⟩) 0 0) [] (some K.n) := .inr ⟨K.n, 0, [], 0, rfl, rfl, k6.at (Heap.get_push_self K (.row true 0 1 [])) (by simp) (fun h => by have := hq _ h; omega), by simp, by simp, .inl rfl⟩
  obtain ⟨v7, r7, K7, e7, G7, k7, n7⟩ := Nm.grow_run strT G6e G6.sl (by simp; omega)
  simp only [List.nil_append] at G7
  have hK6 := k6.n
  simp at hK6
  have n7' : ∀ i, r7 = some i → K.n ≤ i := fun i hi => (n7 i hi).elim (fun h => by cases h; omega) (fun h => by omega)
  have k07 : Same (fun i => rt' = some i) K K7 := ((Same.none kp2).trans k6).then k7 fun i hi => .inr (by cases hi; omega)
  have go7 : Nm.GL K7 vo out ro := I.go.same k07 fun i hi h => I.ne i hi h
  have kH7 : Same (fun _ => False) H1 K7 := I.k.then k07 fun i hi => .inr (I.ot i hi)
  have hK7 := k7.n
  have hor : ∀ i, ro = some i → i < K.n := fun i hi => I.go.lt hi
  have hhas := rHas hE go7.sl (by omega) y
  have t5 := I.t5; have t8 := I.t8
  cases d2 : hasN y out with
  | true =>
   rw [d2] at hhas
   simp [ht, t5, t8, hrow, hoff, hc2, hle, e6, e7, hhas]
   exact ⟨todo.length + load s.procs out, by omega, out, todo, rfl, vo, v7, ro, r7, I.b.drop d2, by simp [ht, t5], by simp [ht], go7, G7, fun i hi h => by have := n7' i h; have := hor i hi; omega, I.oo, fun i hi => by have := n7' i hi; omega, kH7⟩
  | false =>
   rw [d2] at hhas
   have kp8 : Same (fun _ => False) K7 (K7.push (.row true 0 1 [.string y])) := Same.push _ _ _
   have sx : Nm.SL (K7.push (.row true 0 1 [.string y])) (.slice (some ⟨K7.n, 0, none⟩) 1 1) [y] := ⟨_, 1, rfl, .inr ⟨K7.n, 0, true, 0, 1, _, rfl, Heap.get_push_self _ _, by simp, by simp⟩⟩
   obtain ⟨v8, r8, K8, e8, G8, k8, n8⟩ := Nm.grow_run strT (go7.same kp8 fun _ _ h => h) sx (by simp; omega)
   have k78 : Same (fun i => ro = some i) K7 K8 := (Same.none kp8).trans k8
   have n8' : Newer K7 ro r8 := n8.le (by simp)
   have hK8 := k78.n
   have kH8 : Same (fun _ => False) H1 K8 := kH7.then k78 fun i hi => .inr (I.oo i hi)
   have G78 : Nm.GL K8 v7 todo r7 := G7.same k78 fun i hi h => by have := n7' i hi; have := hor i h; omega
   have g08 := kH8.at g0 (by simp) fun h => h
   obtain ⟨o, K9, e9, w9, f9, l9, rfl, gs9, hl9, sz9, k9⟩ := rBody hE hs (src (kp.trans kH8)) y
   obtain ⟨wb9, rfl⟩ := gs9.slice
   obtain ⟨o, KA, eA, vA, rA, rfl, glA, kA, nA⟩ := rCalls hE sz9 (GS.of_le gs9 k9.n)
   rw [hl9] at glA
   have k8A : Same (fun _ => False) K8 KA := k9.trans kA
   have hKA := k8A.n
   have hK9 := k9.n
   have hsy := succ_len s.procs y
   obtain ⟨vB, rB, KB, eB, GB, kB, nB⟩ := Nm.grow_run strT (G78.same k8A fun _ _ h => h) glA.sl (by omega)
   have kAB : Same (fun i => r7 = some i) K8 KB := (Same.none k8A).trans kB
   have kHB : Same (fun _ => False) H1 KB := kH8.then kAB fun i hi => .inr (by have := n7' i hi; omega)
   have hr8 : ∀ i, r8 = some i → r7 ≠ some i ∧ H1.n ≤ i ∧ i < K8.n := fun i hi => ⟨fun h => by
    rcases n8' i hi with h2 | h2
    · have := n7' i h; have := hor i h2; omega
    · have := G7.lt h; omega, (n8' i hi).elim (fun h => I.oo i h) (fun h => by omega), G8.lt hi⟩
   have GO : Nm.GL KB v8 (out ++ [y]) r8 := G8.same kAB fun i hi h => (hr8 i hi).1 h
   have hb := I.b.take d2
   have hbl := hb.len
   have hnew := load_succ (ps := s.procs) d2
   simp only [List.length_append, List.length_cons, List.length_nil] at hbl
   simp [ht, t5, t8, u1, u2, hrow, hoff, hc2, hle, e6, e7, hhas, e8, g08, e9, eA, eB]
   refine ⟨(todo ++ succ s.procs y).length + load s.procs (out ++ [y]), ?_, out ++ [y], todo ++ succ s.procs y, rfl, v8, vB, r8, rB, hb, by simp [ht], by simp [ht], GO, GB, fun i hi h => ?_, fun i hi => (hr8 i hi).2.1, fun i hi => ?_, kHB⟩
   · simp only [List.length_append]; omega
   · obtain ⟨h1, h2, h3⟩ := hr8 i hi
     rcases nB i h with h4 | h4
     · exact h1 h4
     · omega
   · rcases nB i hi with h4 | h4
     · have := n7' i h4; omega
     · have := kH8.n; omega
theorem rReaches {s : Src} (hs : SrcSz s) {H : Heap} {S : Nat → Prop} {cs : List Value} (h : RSrc H S s cs) (x z : ByteArray) :
  Gives ((run Try.prog E).call 10 [.agg ⟨cs⟩, .string x, .string z] H) fun o H' => ∃ b, o = .val (.bool b) ∧ (b = true ↔ Reach s.procs x z) ∧ Same (fun _ => False) H H' := by
 obtain ⟨v1, v2, v3, v4, ec, -⟩ := id h
 have kp : Same (fun _ => False) H (H.push (.row true 0 1 cs)) := Same.push _ _ _
 have g0 : (H.push (.row true 0 1 cs)).get H.n = .row true 0 1 cs := Heap.get_push_self _ _
 obtain ⟨o, K, e, v, out, r, rfl, gl, hlen, hq, k⟩ := rReached hE hs (RSrc.move (S' := fun _ => True) kp (fun i _ _ => ⟨trivial, fun h => h⟩) h) x
 have hhas := rHas hE gl.sl hlen z
 subst ec
 simp only [sr5] at *
 rw [c_rReaches hE, callB, bodyOf]
 simp [Try.f10, e, hhas]
 by_cases hb : hasN z out = true
 · exact .inr ⟨hb, (hq z).1 hb, kp.trans k⟩
 · exact .inl ⟨by simpa using hb, fun r => hb ((hq z).2 r), kp.trans k⟩
end
end Go.Vm.Ring
namespace Go.Vm.Tree
open Go Go.Proofs Go.Vm.Parse
attribute [local simp] repCells_succ writeAt rd_Fr toList_beq gpe gpn spe gse gsn
theorem plain0 : Plain noHooks := ⟨fun _ _ _ => rfl⟩
theorem E0_ok (N : Th) (W0 : World) : CallOK Try.prog N W0 noHooks.run := noHooks_ok
def reachG (ps : List Prc) (to frm : ByteArray) (b : Bool) : Bool := match reachP ps to 20 [] frm with
 | some (c, _) => b == c
 | none => false
def awG : Src ⊕ (Int × Int) → Src ⊕ (Int × Int) → Bool
 | .inl s, .inl t => (match s.procs with
  | [_, p] => decide (callSs [] p.body = [⟨#[97]⟩])
  | _ => false) && (decide (cntR s = 7) && (reachG s.procs ⟨#[97]⟩ ⟨#[97]⟩ true && (reachG s.procs ⟨#[99]⟩ ⟨#[97]⟩ false && (!sameR s t && allSame sameS s.body t.body))))
 | _, _ => false
def awS (b : UInt8) : List UInt8 := [112, 114, 111, 103, 114, 97, 109, 32, 112, 59, 32, 112, 114, 111, 99, 101, 100, 117, 114, 101, 32, 97, 40, 41, 59, 32, 98, 101, 103, 105, 110, 32, 98, 40, 41, 32, 101, 110, 100, 59, 32, 112, 114, 111, 99, 101, 100, 117, 114, 101, 32, 98, 40, 41, 59, 32, 98, 101, 103, 105, 110, 32, 97, 40, 41, 59, 32, 119, 114, 105, 116, 101, 32, 49, 32, 43, 32, b, 32, 101, 110, 100, 59, 32, 98, 101, 103, 105, 110, 32, 115, 107, 105, 112, 32, 101, 110, 100, 46]
theorem aw_true : ((parseP branP (awS 50) 300).bind fun r => (parseP branP (awS 51) 300).map fun q => awG r q) = some true := by decide +kernel
def evK : List (Nat × Operand) → Option (List (Nat × Value))
 | [] => some []
 | (i, .const v) :: l => match ground v with
  | true => (evK l).map ((i, v) :: ·)
  | false => none
 | _ :: _ => none
theorem evK_evP (t : List Value) : ∀ {ps : List (Nat × Operand)} {l}, evK ps = some l → evP t ps = some l
 | [], l, h => h
 | (i, .const v) :: ps, l, h => by
  simp only [evK] at h
  cases hg : ground v with
  | false => rw [hg] at h; cases h
  | true =>
   rw [hg] at h
   simp only [Option.map_eq_some_iff] at h
   obtain ⟨l', h1, rfl⟩ := h
   simp only [evP, evA, evK_evP t h1, hg]
 | (i, .tmp _) :: _, l, h => by cases h
 | (i, .func _) :: _, l, h => by cases h
theorem bs_run {call : Nat → List Value → Heap → Option (Out × Heap)} {n : Nat} {ps : Array (Nat × Operand)} {t : List Value} {H : Heap} (l : List UInt8) (hn : n ≤ 4096) (h : ((evK ps.toList).bind (fillL (fun i => some (i * 1, 1)) (repCells n [.int .u8 0]))) = some (l.map byteC)) :
  exOp Try.prog call (.buildSlice 35 n ps) t H = some (.val (.slice (some ⟨H.n, 0, none⟩) n n), H.push (.row true 0 1 (l.map byteC))) := by
 cases hk : evK ps.toList with
 | none => rw [hk] at h; cases h
 | some q =>
  rw [hk, Option.bind_some] at h
  rw [op_buildSlice, evK_evP t hk, Option.bind_some, buildSlice_eq]
  simp only [Nat.mul_one] at h
  simp [h, val2]
  omega
theorem SrcSz.of {s : Src} {n : Nat} (h : SrcOK s n) (hn : n ≤ 90000) : SrcSz s := by
 have := h.size
 exact ⟨by omega, by omega, by omega, by omega⟩
theorem szs_le {s : Src} (h : SrcSz s) {p0 p : Prc} (hs : s.procs = [p0, p]) : szSs p.body ≤ 90000 := by
 have := h.p
 rw [hs] at this
 simp only [szPs, szP] at this
 omega
structure Duo (H1 K : Heap) (cs : List Value) (c a : Int) : Prop where
 same : Same (fun _ => False) H1 K
 g1 : K.get H1.n = .row true 0 1 cs
 g2 : K.get (H1.n + 1) = .row true 0 1 [.int .i64 c, .int .i64 a]
 n : K.n = H1.n + 2
theorem duo_of (H1 : Heap) (z cs : List Value) (c a : Int) : Duo H1 ((((H1.push (.row true 0 1 z)).push (.row true 0 1 [.int .i64 0, .int .i64 0])).set H1.n (.row true 0 1 cs)).set (H1.n + 1) (.row true 0 1 [.int .i64 c, .int .i64 a])) cs c a :=
 ⟨Same.then_set (Same.then_set ((Same.push _ _ _).then_push _) (by simp; omega) (.inr (by simp)) _) (by simp) (.inr (by simp)) _, by rw [Heap.get_set _ _ _ (by simp), if_neg (by simp)]; exact Heap.get_set_self _ _ (by simp; omega), Heap.get_set_self _ _ (by simp), rfl⟩
theorem proc_two {s : Src} {p0 p : Prc} (hs : s.procs = [p0, p]) {H : Heap} {S : Nat → Prop} {cs : List Value} (h : RSrc H S s cs) (hS : ∀ i, S i → i < H.n) :
  ∃ v1 id tl cs1 v3 v4 w, cs = [.string s.name, v1, .slice (some ⟨id, 0, none⟩) 2 2, v3, v4] ∧ H.get id = .row true tl 5 cs1 ∧ cs1.length = 10 ∧ cs1[9]? = some (.slice w p.body.length p.body.length) ∧ GS H.n H (.slice w p.body.length p.body.length) p.body := by
 obtain ⟨v1, v2, v3, v4, ec, r1, r2, r3, r4⟩ := h
 rw [hs] at r2
 rcases r2 with ⟨_, r2⟩ | ⟨id, tl, cs1, rfl, _, hid, p1, rr⟩
 · cases r2
 have l1 := repPrc.L_len rr
 have hi : 1 < [p0, p].length := by simp
 have rr3 := L_item repPrc rr 1 hi
 have hk0 : repPrc.k = 5 := rfl
 rw [hk0] at p1 l1 rr3
 obtain ⟨w1, w2, w3, ec1, -⟩ := pr_parts rr3
 obtain ⟨w1', w2', w3', ec2, -, -, gb⟩ := rr3
 simp only [List.getElem_cons_succ, List.getElem_cons_zero] at *
 rw [ec1] at ec2
 simp only [pc5, List.cons.injEq, and_true, true_and] at ec2
 obtain ⟨rfl, rfl, rfl⟩ := ec2
 simp only [pc5] at ec1
 have p5 : cs1[9]? = some (.slice w3 p.body.length p.body.length) := by
  have := congrArg (·[4]?) ec1
  simpa [List.getElem?_take, List.getElem?_drop] using this
 exact ⟨v1, id, tl, cs1, v3, v4, w3, ec, p1, by simpa using l1, p5, GS.ofG (fun i hi => hS i hi.1) gb⟩
theorem c_awake22 (args : List Value) (H : Heap) : (run Try.prog noHooks).call 4 args H = callB Try.prog noHooks Try.f4 args H := call_B Try.func4 rfl (by decide +kernel) rfl args H
theorem awake22 (H : Heap) : ∃ H', (run Try.prog noHooks).call 4 [] H = some (.val (.bool true), H') := by
 suffices key : Gives ((run Try.prog noHooks).call 4 [] H) fun o H' => o = .val (.bool true) by
  obtain ⟨o, H', e, rfl⟩ := key
  exact ⟨H', e⟩
 obtain ⟨s, t, hx1, hx2, hg⟩ : ∃ s t, parseP branP (awS 50) 300 = some (.inl s) ∧ parseP branP (awS 51) 300 = some (.inl t) ∧ awG (.inl s) (.inl t) = true := by
  have h := aw_true
  simp only [Option.bind_eq_some_iff, Option.map_eq_some_iff] at h
  obtain ⟨r, h1, q, h2, h3⟩ := h
  cases r with
  | inr _ => simp [awG] at h3
  | inl s => cases q with
   | inr _ => simp [awG] at h3
   | inl t => exact ⟨s, t, h1, h2, h3⟩
 have sz1 := SrcSz.of (parse_ok hx1) (by decide)
 have sz2 := SrcSz.of (parse_ok hx2) (by decide)
 simp only [awG, Bool.and_eq_true, decide_eq_true_eq, Bool.not_eq_true'] at hg
 obtain ⟨hp, hcnt, hr1, hr2, hsame, hbody⟩ := hg
 obtain ⟨p0, p, hps, hcall⟩ : ∃ p0 p, s.procs = [p0, p] ∧ callSs [] p.body = [⟨#[97]⟩] := by
  match hq : s.procs, hp with
  | [p0, p], hp => exact ⟨p0, p, rfl, by simpa using hp⟩
 obtain ⟨o1, hR1⟩ : ∃ o, reachP s.procs ⟨#[97]⟩ 20 [] ⟨#[97]⟩ = some (true, o) := by
  unfold reachG at hr1
  split at hr1
  · rename_i c o e; exact ⟨o, by rw [e]; simp at hr1; simp [← hr1]⟩
  · cases hr1
 obtain ⟨o2, hR2⟩ : ∃ o, reachP s.procs ⟨#[99]⟩ 20 [] ⟨#[97]⟩ = some (false, o) := by
  unfold reachG at hr2
  split at hr2
  · rename_i c o e; exact ⟨o, by rw [e]; simp at hr2; simp [hr2]⟩
  · cases hr2
 have bs : ∀ (K : Heap) b, BS (K.push (.row true 0 1 ((awS b).map byteC))) K.n 0 99 (awS b) := fun K b => ⟨true, 0, 1, _, Heap.get_push_self _ _, by simp [awS], by simp [awS], by rw [List.drop_zero]; exact List.take_of_length_le (by simp)⟩
 have cv : ∀ (K : Heap) b, exConvert Try.prog 35 35 (.slice (some ⟨K.n, 0, none⟩) 99 99) (K.push (.row true 0 1 ((awS b).map byteC))) = some (.slice (some ⟨K.n, 0, none⟩) 99 99, K.push (.row true 0 1 ((awS b).map byteC))) := fun K b => by
  simp [exConvert, Heap.get_push]
 have hl : ∀ b, (awS b).length = 99 := fun b => rfl
 have sp : ∀ (S : Nat → Prop) (K : Heap) q cs, RSrc K S q cs → ∃ b1 n1 c1 b2 n2 c2 b3 n3 c3 b4 n4 c4, cs = [.string q.name, .slice b1 n1 c1, .slice b2 n2 c2, .slice b3 n3 c3, .slice b4 n4 c4] := fun S K q cs h => by
  obtain ⟨u1, u2, u3, u4, e, -⟩ := sr_parts h
  exact ⟨_, _, _, _, _, _, _, _, _, _, _, _, e⟩
 obtain ⟨o, Ha, ea, ka, csa, rfl, ra⟩ := parse_any plain0 rfl (AllOK.bs plain0 (bs H 50) (by decide)) (by decide) hx1
 rw [hl] at ea
 obtain ⟨b1, n1, c1, b2, n2, c2, b3, n3, c3, b4, n4, c4, rfl⟩ := sp _ _ _ _ ra
 have D1 := duo_of Ha [.string ByteArray.empty, .slice none 0 0, .slice none 0 0, .slice none 0 0, .slice none 0 0] [.string s.name, .slice b1 n1 c1, .slice b2 n2 c2, .slice b3 n3 c3, .slice b4 n4 c4] 0 0
 generalize hK1 : (((Ha.push (.row true 0 1 [.string ByteArray.empty, .slice none 0 0, .slice none 0 0, .slice none 0 0, .slice none 0 0])).push (.row true 0 1 [.int .i64 0, .int .i64 0])).set Ha.n (.row true 0 1 [.string s.name, .slice b1 n1 c1, .slice b2 n2 c2, .slice b3 n3 c3, .slice b4 n4 c4])).set (Ha.n + 1) (.row true 0 1 [.int .i64 0, .int .i64 0]) = K1 at *
 have rK1 := RSrc.move (S' := fun _ => True) D1.same (fun i _ _ => ⟨trivial, fun h => h⟩) ra
 have kb : Same (fun _ => False) K1 (K1.push (.row true 0 1 ((awS 51).map byteC))) := Same.push _ _ _
 obtain ⟨o, Hb, eb, kb', csb, rfl, rb⟩ := parse_any plain0 rfl (AllOK.bs plain0 (bs K1 51) (by decide)) (by decide) hx2
 rw [hl] at eb
 obtain ⟨b1', n1', c1', b2', n2', c2', b3', n3', c3', b4', n4', c4', rfl⟩ := sp _ _ _ _ rb
 have D2 := duo_of Hb [.string ByteArray.empty, .slice none 0 0, .slice none 0 0, .slice none 0 0, .slice none 0 0] [.string t.name, .slice b1' n1' c1', .slice b2' n2' c2', .slice b3' n3' c3', .slice b4' n4' c4'] 0 0
 have k12 := ((kb.trans kb').trans D2.same)
 generalize hK2 : (((Hb.push (.row true 0 1 [.string ByteArray.empty, .slice none 0 0, .slice none 0 0, .slice none 0 0, .slice none 0 0])).push (.row true 0 1 [.int .i64 0, .int .i64 0])).set Hb.n (.row true 0 1 [.string t.name, .slice b1' n1' c1', .slice b2' n2' c2', .slice b3' n3' c3', .slice b4' n4' c4'])).set (Hb.n + 1) (.row true 0 1 [.int .i64 0, .int .i64 0]) = K2 at *
 have rs := RSrc.move (S' := fun i => i < K2.n) k12 (fun i _ hi => ⟨by have := k12.n; omega, fun h => h⟩) rK1
 have rt := RSrc.move (S' := fun _ => True) D2.same (fun i _ _ => ⟨trivial, fun h => h⟩) rb
 have gs := k12.at D1.g1 (by simp) fun h => h
 have gt := D2.g1
 obtain ⟨u1, id, tl, cs1, u3, u4, w, ec, p1, l1, p9, gp⟩ := proc_two hps rs (fun i h => h)
 simp only [List.cons.injEq, true_and, and_true] at ec
 obtain ⟨rfl, ec, rfl, rfl⟩ := ec
 cases ec
 obtain ⟨o, K3, e3, bc, rfl, k3, gc⟩ := tCalls plain0 (szs_le sz1 hps) gp
 rw [hcall] at e3 gc
 have gs3 := k3.at gs (by simp) fun h => h
 have gt3 := k3.at gt (by simp) fun h => h
 have go : ∀ {X Y : Heap}, Same (fun _ => False) X Y → ∀ {q : Src} {cs : List Value}, RSrc X (fun _ => True) q cs → RSrc Y (fun _ => True) q cs := fun k q cs h => RSrc.move k (fun i _ _ => ⟨trivial, fun h => h⟩) h
 have rs3 : RSrc K3 (fun _ => True) s _ := RSrc.move k3 (fun i _ _ => ⟨trivial, fun h => h⟩) rs
 have rt3 := go k3 rt
 obtain ⟨o, K4, e4, rfl, k4⟩ := pSame plain0 sz1 sz1 rs3 rs3
 rw [sameR_refl] at e4
 have gs4 := k4.at gs3 (by simp) fun h => h
 have gt4 := k4.at gt3 (by simp) fun h => h
 obtain ⟨o, K5, e5, rfl, k5⟩ := pSame plain0 sz1 sz2 (go k4 rs3) (go k4 rt3)
 rw [hsame] at e5
 have gs5 := k5.at gs4 (by simp) fun h => h
 have gt5 := k5.at gt4 (by simp) fun h => h
 obtain ⟨o, K6, e6, rfl, k6⟩ := pCount plain0 sz1 (go k5 (go k4 rs3))
 rw [hcnt] at e6
 have gs6 := k6.at gs5 (by simp) fun h => h
 have gt6 := k6.at gt5 (by simp) fun h => h
 rcases gc with ⟨_, gc⟩ | ⟨idc, tlc, csc, hbc, _, _, pc, rc⟩
 · cases gc
 simp only [Value.slice.injEq] at hbc
 obtain ⟨rfl, -⟩ := hbc
 obtain ⟨cc1, cc2, rfl, rc1, rc2⟩ := rc
 have rc1' : cc1 = [.string ⟨#[97]⟩] := rc1
 have rc2' : cc2 = [] := rc2
 subst rc1' rc2'
 have hk1 : repNm.k = 1 := rfl
 rw [hk1] at pc
 have pc6 := ((k4.trans k5).trans k6).at pc (by simp) fun h => h
 obtain ⟨o, K7, e7, rfl, k7⟩ := tReaches plain0 sz1 hR1 (go k6 (go k5 (go k4 rs3)))
 have gs7 := k7.at gs6 (by simp) fun h => h
 have gt7 := k7.at gt6 (by simp) fun h => h
 obtain ⟨o, K8, e8, rfl, k8⟩ := tReaches plain0 sz1 hR2 (go k7 (go k6 (go k5 (go k4 rs3))))
 have gs8 := k8.at gs7 (by simp) fun h => h
 have gt8 := k8.at gt7 (by simp) fun h => h
 obtain ⟨x1, x2, x3, x4, es8, -, -, -, G1⟩ := sr_parts (go k8 (go k7 (go k6 (go k5 (go k4 rs3)))))
 obtain ⟨y1, y2, y3, y4, et8, -, -, -, G2⟩ := sr_parts (go k8 (go k7 (go k6 (go k5 (go k4 rt3)))))
 simp only [sr5, List.cons.injEq, true_and, and_true, Value.slice.injEq] at es8 et8
 obtain ⟨-, -, -, rfl, rfl, rfl⟩ := es8
 obtain ⟨-, -, -, rfl, rfl, rfl⟩ := et8
 obtain ⟨o, K9, e9, rfl, k9⟩ := pStmts plain0 _ s.body (Nat.lt_succ_self _) sz1.b t.body sz2.b K8 _ _ G1 G2
 rw [hbody] at e9
 obtain ⟨o, KA, eA, rfl, kA⟩ := pExpr plain0 _ (.mk 1 0 0 0 ByteArray.empty []) (Nat.lt_succ_self _) (by decide) (.mk 2 0 0 0 ByteArray.empty []) (by decide) K9 [.int .i64 1, .int .i64 0, .int .i64 0, .int .i64 0, .string ByteArray.empty, .slice none 0 0] [.int .i64 2, .int .i64 0, .int .i64 0, .int .i64 0, .string ByteArray.empty, .slice none 0 0] (by simp [RE]) (by simp [RE])
 have hne : sameE (.mk 1 0 0 0 ByteArray.empty []) (.mk 2 0 0 0 ByteArray.empty []) = false := by simp [sameE]
 rw [hne] at eA
 rw [c_awake22, callB, bodyOf]
 simp [-op_buildSlice, Try.f4]
 rw [bs_run (awS 50) (by decide) (by kernel_rfl)]
 simp [-op_buildSlice, cv, ea]
 rw [hK1, bs_run (awS 51) (by decide) (by kernel_rfl)]
 simp [-op_buildSlice, cv, eb]
 rw [hK2]
 have h9 : 9 < cs1.length := by omega
 rw [List.getElem?_eq_getElem h9] at p9
 simp only [Option.some.injEq] at p9
 simp [gs, p1, l1, p9, e3]
 simp [gs3, gt3, e4, gs4, gt4, e5, gs5, gt5, e6, gs6, gt6, pc6, e7, gs7, gt7, e8, gs8, gt8, e9, eA]
end Go.Vm.Tree
namespace Go.Vm.Wi
open Go Go.Proofs Go.Vm.Parse
attribute [local simp] rd_Fr
section
variable {E : Hooks} (hE : Plain E)
include hE
theorem c_within2 (args : List Value) (H : Heap) : (run Try.prog E).call 7 args H = callB Try.prog E Try.f7 args H := call_B Try.func7 rfl (by decide +kernel) (hE.no _ rfl rfl) args H
theorem within_any {x : Int} (hx : Lit.wf (.int .i64 x) = true) (lo hi : Int) (h0 : 0 ≤ lo) (h1 : lo ≤ hi) (h2 : hi ≤ 1000000) :
  ∃ k : Nat, lo ≤ k ∧ (k : Int) ≤ hi ∧ ∀ H, (run Try.prog E).call 7 [.int .i64 x, .int .i64 lo, .int .i64 hi] H = some (.val (.int .i64 k), H) := by
 suffices key : ∃ k : Nat, lo ≤ k ∧ (k : Int) ≤ hi ∧ ∀ H, Gives ((run Try.prog E).call 7 [.int .i64 x, .int .i64 lo, .int .i64 hi] H) fun o H' => o = .val (.int .i64 k) ∧ H' = H by
  obtain ⟨k, h3, h4, h5⟩ := key
  refine ⟨k, h3, h4, fun H => ?_⟩
  obtain ⟨o, H', e, rfl, rfl⟩ := h5 H
  exact e
 have w1 : IntKind.i64.wrap (hi - lo) = hi - lo := wrap64 _ (by omega) (by omega)
 have w2 : IntKind.i64.wrap (hi - lo + 1) = hi - lo + 1 := wrap64 _ (by omega) (by omega)
 have hb : -(hi - lo + 1) < x.tmod (hi - lo + 1) ∧ x.tmod (hi - lo + 1) < hi - lo + 1 := by
  have h1 := Int.tmod_lt_of_pos x (show (0 : Int) < hi - lo + 1 by omega)
  have h2 := Int.neg_tmod x (hi - lo + 1)
  have h3 := Int.tmod_lt_of_pos (-x) (show (0 : Int) < hi - lo + 1 by omega)
  omega
 have hr := fun ty a b => bin_rem (P := Try.prog) ty a b .i64 x (hi - lo + 1) (by omega)
 generalize x.tmod (hi - lo + 1) = y at hb hr
 by_cases hy : y < 0
 · have w3 : IntKind.i64.wrap (y + hi) = y + hi := wrap64 _ (by omega) (by omega)
   have w4 : IntKind.i64.wrap (y + hi - lo) = y + hi - lo := wrap64 _ (by omega) (by omega)
   have w5 : IntKind.i64.wrap (y + hi - lo + 1) = y + hi - lo + 1 := wrap64 _ (by omega) (by omega)
   have w6 : IntKind.i64.wrap (lo + (y + hi - lo + 1)) = lo + (y + hi - lo + 1) := wrap64 _ (by omega) (by omega)
   refine ⟨(lo + (y + hi - lo + 1)).toNat, by omega, by omega, fun H => ?_⟩
   rw [c_within2 hE, callB, bodyOf]
   simp [Try.f7, w1, w2, hr, hy, w3, w4, w5, w6]
   omega
 · have w6 : IntKind.i64.wrap (lo + y) = lo + y := wrap64 _ (by omega) (by omega)
   refine ⟨(lo + y).toNat, by omega, by omega, fun H => ?_⟩
   rw [c_within2 hE, callB, bodyOf]
   simp [Try.f7, w1, w2, hr, hy, w6]
   omega
end
end Go.Vm.Wi
namespace Go.Vm.Ring
open Go Go.Proofs Go.Vm.Parse Go.Vm.Make Go.Vm.Tree
attribute [local simp] repCells_succ writeAt rd_Fr toList_beq gpe gpn spe gse gsn
theorem pl_reaches : planOf Try.prog (drawN Try.f3 0) = some [none, none, none, none, none, none, none, none, none, none, none, none, none, none, none, none, none, none, none, none, none, none, none, none, none, none, none, none, none, none, none, none, some (4, 1), some (4, 1), some (4, 1), none, none, none, none, none, none, none] := by decide +kernel
theorem c_reaches22 (args : List Value) (H : Heap) : (run Try.prog noHooks).call 3 args H = callB Try.prog noHooks Try.f3 args H := call_B Try.func3 rfl (by decide +kernel) rfl args H
theorem flat_ints {k : Nat} {x : Value} {o : AObj} (fa : FlatArg (isInt .i64) 1 k x o) {H : Heap} (hH : H.get k = o) : ∃ N : List Int, SL H x N := by
 obtain ⟨base, len, cap, cs, rfl, h1, h2, h3, h4, h5⟩ := fa
 have hb : ∀ cs : List Value, (∀ c ∈ cs, isInt .i64 c) → ∃ N : List Int, cs = N.map iv := by
  intro cs
  induction cs with
  | nil => intro _; exact ⟨[], rfl⟩
  | cons c cs ih =>
   intro h
   obtain ⟨N, hN⟩ := ih fun c hc => h c (by simp [hc])
   obtain ⟨n, hn, _⟩ := h c (by simp)
   exact ⟨n :: N, by simp [hn, ← hN]⟩
 rcases h5 with ⟨rfl, rfl, rfl, rfl⟩ | ⟨rfl, rfl⟩
 · exact ⟨[], none, 0, rfl, .inl ⟨rfl, rfl⟩⟩
 · obtain ⟨N, rfl⟩ := hb cs h4
   simp at h3
   refine ⟨N.take len, some ⟨k, 0, none⟩, cap, ?_, .inr ⟨k, 0, false, 0, 0, _, rfl, hH, ?_, ?_⟩⟩
   · simp only [List.length_take]; rw [Nat.min_eq_left (by omega)]
   · simp; omega
   · simp only [List.length_take, Nat.min_eq_left (show len ≤ N.length by omega), List.drop_zero, List.map_take]
def anyC (z : ByteArray) (l : List Prc) : Bool := l.any fun p => hasN z (callSs [] p.body)
theorem anyC_of {ps : List Prc} {x z : ByteArray} (h : Reach ps x z) : anyC z ps = true := by
 obtain ⟨y, hy⟩ := h.last
 obtain ⟨p, hp, _, _, hz⟩ := succ_mem hy
 exact List.any_eq_true.2 ⟨p, hp, hasN_iff.2 hz⟩
theorem anyC_take {z : ByteArray} {l : List Prc} {i : Nat} (h : i < l.length) : anyC z (l.take (i + 1)) = (anyC z (l.take i) || hasN z (callSs [] l[i].body)) := by
 unfold anyC
 rw [List.take_succ_eq_append_getElem h, List.any_append]
 simp
theorem hasN_take {z : ByteArray} {l : List ByteArray} {i : Nat} (h : i < l.length) : hasN z (l.take (i + 1)) = (hasN z (l.take i) || decide (l[i] = z)) := by
 rw [List.take_succ_eq_append_getElem h]
 have : ∀ a : List ByteArray, hasN z (a ++ [l[i]]) = (hasN z a || decide (l[i] = z)) := by
  intro a
  induction a with
  | nil => simp [hasN, eq_comm]
  | cons b a ih => simp only [List.cons_append, hasN, ih, Bool.or_assoc]
 exact this _
theorem ring_bs {H K : Heap} {out : List UInt8} {v : Value} (h : RgI H out v K) : ∃ id, v = .slice (some ⟨id, 0, none⟩) out.length out.length ∧ BS K id 0 out.length out := by
 obtain ⟨k, id, tl, rfl, htl, hid, hg⟩ := h
 exact ⟨id, rfl, true, tl, 1, _, hg, by simp, Nat.le_refl _, by rw [List.drop_zero]; exact List.take_of_length_le (by simp)⟩
theorem conv_chr' (K : Heap) (m : Nat) (hm : m = K.n) (k : Nat) : exConvert Try.prog 35 9 (.slice (some ⟨m, 0, none⟩) 1 1) (K.push (.row true 0 1 [.int .u8 ((chr k).toNat : Int)])) = some (.string ⟨#[chr k]⟩, K.push (.row true 0 1 [.int .u8 ((chr k).toNat : Int)])) := by
 subst hm; exact conv_chr K k
theorem reaches_walk (n : Int) (wn : Lit.wf (.int .i64 n) = true) (lx : Value) (lo : AObj) (fl : FlatArg (isInt .i64) 1 0 lx lo) (a : Int) (wa : Lit.wf (.int .i64 a) = true) (b : Int) (wb : Lit.wf (.int .i64 b) = true) (c : Int) (wc : Lit.wf (.int .i64 c) = true) :
  Gives ((run Try.prog noHooks).call 3 [.int .i64 n, lx, .int .i64 a, .int .i64 b, .int .i64 c] (Heap.empty.push lo)) fun o _ => o = .val (.bool true) := by
 obtain ⟨H, hH⟩ : ∃ H, H = Heap.empty.push lo := ⟨_, rfl⟩
 rw [← hH]
 obtain ⟨l, hl⟩ := flat_ints fl (H := H) (by rw [hH]; exact Heap.get_push_self _ _)
 clear hH
 obtain ⟨lb, lc, rfl⟩ : ∃ b c, lx = .slice b l.length c := by obtain ⟨b, c, rfl, _⟩ := hl; exact ⟨b, c, rfl⟩
 rw [c_reaches22, callB, bodyOf]
 by_cases c1 : n < 1
 · obtain ⟨H2, e2⟩ := awake22 H
   simp [Try.f3, c1, e2]
 by_cases c2 : 8 < n
 · obtain ⟨H2, e2⟩ := awake22 H
   simp [Try.f3, c1, c2, e2]
 by_cases c3 : 64 < l.length
 · obtain ⟨H2, e2⟩ := awake22 H
   simp [Try.f3, c1, c2, show (64 : Int) < l.length by omega, e2]
 obtain ⟨n, rfl⟩ : ∃ m : Nat, n = m := ⟨n.toNat, by omega⟩
 obtain ⟨o, K1, e1, v1, rfl, hR⟩ := ring_run plain0 hl (n := n) (by omega) (by omega)
 obtain ⟨id, rfl, hbs⟩ := ring_bs hR
 obtain ⟨pl, pk⟩ := psF_ok (n := n) (by omega) l n (Nat.le_refl _)
 obtain ⟨s, hx⟩ := ring_parse (ps := psF n l n) (by omega) pk
 have ptl := procsT_len (psF n l n) fun p hp => (pk p hp).2.1
 have hlen : (ringT (psF n l n)).length ≤ 4096 := by simp [ringT, preT, endT]; omega
 obtain ⟨o, K2, e2, k2, cs, rfl, rs⟩ := parse_any plain0 rfl (AllOK.bs plain0 hbs hlen) hlen hx
 have sz := SrcSz.of (parse_ok hx) (by omega)
 obtain ⟨u1, u2, u3, u4, ec, -⟩ := sr_parts rs
 simp only [sr5] at ec
 subst ec
 have D := duo_of K2 [.string ByteArray.empty, .slice none 0 0, .slice none 0 0, .slice none 0 0, .slice none 0 0] [.string s.name, .slice u1 s.decls.length s.decls.length, .slice u2 s.procs.length s.procs.length, .slice u3 s.claims.length s.claims.length, .slice u4 s.body.length s.body.length] 0 0
 obtain ⟨a, a0, a1, ea⟩ := Wi.within_any plain0 wa 0 ((n : Int) - 1) (by omega) (by omega) (by omega)
 obtain ⟨b, b0, b1, eb⟩ := Wi.within_any plain0 wb 0 ((n : Int) - 1) (by omega) (by omega) (by omega)
 obtain ⟨c, c0, c1', ec⟩ := Wi.within_any plain0 wc 0 ((n : Int) - 1) (by omega) (by omega) (by omega)
 have wn1 := wrap64 ((n : Int) - 1) (by omega) (by omega)
 have f_conv : ∀ x H, exConvert Try.prog 3 5 (.int .i64 x) H = some (.int .u8 (IntKind.u8.wrap x), H) := fun _ _ => rfl
 have wa1 := wrap64 (97 + (a : Int)) (by omega) (by omega)
 have wb1 := wrap64 (97 + (b : Int)) (by omega) (by omega)
 have wc1 := wrap64 (97 + (c : Int)) (by omega) (by omega)
 have wa2 := wrap_chr a (by omega)
 have wb2 := wrap_chr b (by omega)
 have wc2 := wrap_chr c (by omega)
 have fq := fun (k : Nat) a b => bin_cat2 a b ⟨#[113]⟩ ⟨#[chr k]⟩ (by simp [ByteArray.size])
 generalize hK3 : (((K2.push (.row true 0 1 [.string ByteArray.empty, .slice none 0 0, .slice none 0 0, .slice none 0 0, .slice none 0 0])).push (.row true 0 1 [.int .i64 0, .int .i64 0])).set K2.n (.row true 0 1 [.string s.name, .slice u1 s.decls.length s.decls.length, .slice u2 s.procs.length s.procs.length, .slice u3 s.claims.length s.claims.length, .slice u4 s.body.length s.body.length])).set (K2.n + 1) (.row true 0 1 [.int .i64 0, .int .i64 0]) = K3 at *
 have d1 := D.g1
 have d2 := D.g2
 simp [Try.f3, c1, c2, show ¬ (64 : Int) < l.length by omega, e1, e2]
 rw [hK3]
 have cc1 := conv_chr K3 a
 have cc2 := conv_chr' (K3.push (.row true 0 1 [.int .u8 ((chr a).toNat : Int)])) (K3.n + 1) rfl b
 have cc3 := conv_chr' ((K3.push (.row true 0 1 [.int .u8 ((chr a).toNat : Int)])).push (.row true 0 1 [.int .u8 ((chr b).toNat : Int)])) (K3.n + 1 + 1) rfl c
 simp [d2, wn1, ea, wa1, f_conv, wa2, cc1, fq, eb, wb1, wb2, cc2, ec, wc1, wc2, cc3]
 have k34 : Same (fun _ => False) K3 (((K3.push (.row true 0 1 [.int .u8 ((chr a).toNat : Int)])).push (.row true 0 1 [.int .u8 ((chr b).toNat : Int)])).push (.row true 0 1 [.int .u8 ((chr c).toNat : Int)])) := ((Same.push _ _ _).then_push _).then_push _
 generalize (((K3.push (.row true 0 1 [.int .u8 ((chr a).toNat : Int)])).push (.row true 0 1 [.int .u8 ((chr b).toNat : Int)])).push (.row true 0 1 [.int .u8 ((chr c).toNat : Int)])) = K4 at *
 generalize hX : (⟨#[113]⟩ ++ ⟨#[chr a]⟩ : ByteArray) = X at *
 generalize hY : (⟨#[113]⟩ ++ ⟨#[chr b]⟩ : ByteArray) = Y at *
 generalize hZ : (⟨#[113]⟩ ++ ⟨#[chr c]⟩ : ByteArray) = Z at *
 have g4 := k34.at d1 (by simp) fun h => h
 have rs4 : RSrc K4 (fun i => i < K2.n) s [.string s.name, .slice u1 s.decls.length s.decls.length, .slice u2 s.procs.length s.procs.length, .slice u3 s.claims.length s.claims.length, .slice u4 s.body.length s.body.length] := RSrc.move (D.same.trans k34) (fun i _ hi => ⟨hi, fun h => h⟩) rs
 have hp := szPs_len s.procs
 have hp2 := sz.p
 refine loop_mid2 (fun t K => rd t 16 = .bool (anyC Z s.procs) ∧ Same (fun _ => False) K4 K) (fun m t K => ∃ i, i ≤ s.procs.length ∧ m = s.procs.length - i ∧ rd t 17 = .int .i64 i ∧ rd t 16 = .bool (anyC Z (s.procs.take i)) ∧ Same (fun _ => False) K4 K) s.procs.length ?_ ?_ ?_
 · exact ⟨0, Nat.zero_le _, rfl, by simp, by simp [anyC], Same.refl _ _⟩
 · rintro m t K hk ⟨i, hi', rfl, g17, g16, kK⟩
   have ht : t.length = 139 := hk.1.trans (by simp [len_Bs])
   have hh := hk.all [11, 15] (by decide +kernel)
   simp at hh
   obtain ⟨q11, q15⟩ := hh
   clear hk
   have gK := kK.at g4 (by simp) fun h => h
   rcases Nat.lt_or_ge i s.procs.length with hi | hi
   · have rK := RSrc.move (S' := fun i => i < K2.n) kK (fun i hi _ => ⟨hi, fun h => h⟩) rs4
     obtain ⟨v1', v2', v3', v4', ec', r1, r2, r3, r4⟩ := rK
     simp only [sr5, List.cons.injEq, true_and, and_true] at ec'
     obtain ⟨rfl, rfl, rfl, rfl⟩ := ec'
     obtain ⟨id1, tl1, cs1, hbb, -, -, p1, l1, rr1⟩ := (GT.of repPrc r2).at hi
     subst hbb
     obtain ⟨id1', tl1', cs1', hbb', _, hid, p1', rr2⟩ := r2.resolve_left (by simp)
     simp only [Value.slice.injEq, Option.some.injEq, Addr.mk.injEq] at hbb'
     obtain ⟨⟨rfl, -⟩, -⟩ := hbb'
     rw [p1] at p1'
     simp only [AObj.row.injEq, true_and] at p1'
     obtain ⟨rfl, rfl⟩ := p1'
     have rr3 := L_item repPrc rr2 _ hi
     clear rr1
     have hpm := szPs_mem (List.getElem_mem hi)
     have hany := anyC_take (z := Z) hi
     generalize s.procs[i] = Q at *
     obtain ⟨w1, w2, w3, ec1, -⟩ := pr_parts rr3
     obtain ⟨w1', w2', w3', ec2, -, -, gb⟩ := rr3
     rw [ec1] at ec2
     simp only [pc5, List.cons.injEq, and_true, true_and] at ec2
     obtain ⟨rfl, rfl, rfl⟩ := ec2
     have hk0 : repPrc.k = 5 := rfl
     rw [hk0] at p1 l1 ec1
     simp only [pc5] at ec1
     have pz : ∀ j, j < 5 → cs1[i * 5 + j]? = ([.int .i64 Q.at_, .string Q.name, .slice w1 Q.params.length Q.params.length, .slice w2 Q.vars.length Q.vars.length, .slice w3 Q.body.length Q.body.length] : List Value)[j]? := fun j hj => by
      have := congrArg (·[j]?) ec1
      simp only [List.getElem?_take, if_pos hj, List.getElem?_drop] at this
      exact this
     have p4c := pz 4 (by omega)
     simp at p4c
     have hKn := kK.n
     have hK4n := (D.same.trans k34).n
     have gS : GS K.n K (.slice w3 Q.body.length Q.body.length) Q.body := GS.ofG (fun i hi => by have := hi.1; omega) gb
     obtain ⟨o, K5, e5, v5, r5, rfl, gl5, k5, -⟩ := rCalls plain0 (by simp only [szP] at hpm; omega) gS
     have hcl := callSs_len [] Q.body
     simp only [List.length_nil, szP] at hcl hpm
     obtain ⟨b5, c5, rfl⟩ : ∃ b c, v5 = .slice b (callSs [] Q.body).length c := by obtain ⟨b, c, h, _⟩ := gl5.sl; exact ⟨b, c, h⟩
     have w9 := wrap64 ((i : Int) + 1) (by omega) (by omega)
     simp [ht, q11, q15, g17, g16, gK, hi, p1, l1, p4c, e5]
     generalize hM : callSs [] Q.body = M at *
     have hk5 : Same (fun _ => False) K4 K5 := kK.trans k5
     refine loop_wp (fun m t K => K = K5 ∧ ∃ j, j ≤ M.length ∧ m = M.length - j ∧ rd t 19 = .int .i64 j ∧ rd t 16 = .bool (anyC Z (s.procs.take i) || hasN Z (M.take j))) M.length ?_ ?_
     · exact ⟨rfl, 0, Nat.zero_le _, rfl, by simp [ht], by simp [ht, g16, hasN]⟩
     · rintro m2 t' K' hk2 ⟨rfl, j, hj', rfl, g19, g16'⟩
       have ht2 : t'.length = 139 := hk2.1.trans (by simp [ht])
       have hh2 := hk2.all [15, 17, 18] (by decide +kernel)
       simp [ht, q15, g17] at hh2
       obtain ⟨z15, z17, z18⟩ := hh2
       clear hk2
       have w8 := wrap64 ((j : Int) + 1) (by omega) (by omega)
       rcases Nat.lt_or_ge j M.length with hj | hj
       · obtain ⟨-, r, off, own, tl, es, cs, hb, hrow, hle, hc1⟩ := gl5.sl.at hj
         subst hb
         have htk := hasN_take (z := Z) hj
         have hoff : off + j < cs.length := by omega
         have hc2 : cs[off + j] = .string M[j] := (List.getElem?_eq_some_iff.1 hc1).2
         generalize M[j] = W at *
         cases hb1 : (anyC Z (s.procs.take i) || hasN Z (M.take j)) with
         | true =>
          rw [hb1] at g16'
          simp [ht2, z15, z18, g19, g16', hj, w8]
          exact ⟨M.length - (j + 1), by omega, j + 1, by omega, rfl, by simp [ht2], by
           rw [htk]
           rw [Bool.or_eq_true] at hb1
           rcases hb1 with h | h
           · exact .inl h
           · exact .inr (by rw [h]; rfl)⟩
         | false =>
          rw [hb1] at g16'
          simp [ht2, z15, z18, g19, g16', hj, hrow, hle, hoff, hc2, w8]
          refine ⟨M.length - (j + 1), by omega, j + 1, by omega, rfl, by simp [ht2], ?_⟩
          rw [htk, ← Bool.or_assoc, hb1]
          simp [ht2]
       · obtain rfl : j = M.length := by omega
         rw [List.take_length, ← hany] at g16'
         simp [ht2, z15, z17, z18, g19, g16', w9]
         exact ⟨s.procs.length - (i + 1), by omega, i + 1, by omega, rfl, by simp [ht2], by simp [ht2, g16'], hk5⟩
   · obtain rfl : i = s.procs.length := by omega
     rw [List.take_length] at g16
     simp [ht, q11, q15, g17, g16, gK]
     exact kK
 · rintro t K hk ⟨g16, kK⟩
   have ht : t.length = 139 := hk.1.trans (by simp [len_Bs])
   have hh := hk.all [11, 13, 14, 15] (by decide +kernel)
   simp at hh
   obtain ⟨q11, q13, q14, q15⟩ := hh
   clear hk
   have gK := kK.at g4 (by simp) fun h => h
   have rK : RSrc K (fun _ => True) s _ := RSrc.move kK (fun i _ _ => ⟨trivial, fun h => h⟩) rs4
   have go : ∀ {A B : Heap}, Same (fun _ => False) A B → ∀ {q : Src} {cs : List Value}, RSrc A (fun _ => True) q cs → RSrc B (fun _ => True) q cs := fun k q cs h => RSrc.move k (fun i _ _ => ⟨trivial, fun h => h⟩) h
   have R1 : ∀ (A : Heap) (x y : ByteArray), RSrc A (fun _ => True) s [.string s.name, .slice u1 s.decls.length s.decls.length, .slice u2 s.procs.length s.procs.length, .slice u3 s.claims.length s.claims.length, .slice u4 s.body.length s.body.length] → Reach s.procs x y → ∃ B, (run Try.prog noHooks).call 9 [.agg ⟨[.string s.name, .slice u1 s.decls.length s.decls.length, .slice u2 s.procs.length s.procs.length, .slice u3 s.claims.length s.claims.length, .slice u4 s.body.length s.body.length]⟩, .string x, .string y] A = some (.val (.bool true), B) ∧ Same (fun _ => False) A B := fun A x y h hr => by
    obtain ⟨b, kn, e, hb⟩ := reach_dfs s.procs y x
    obtain ⟨o, B, e2, rfl, k⟩ := tReaches plain0 sz e h
    rw [hb.2 hr] at e2
    exact ⟨B, e2, k⟩
   have R0 : ∀ (A : Heap) (x y : ByteArray), RSrc A (fun _ => True) s [.string s.name, .slice u1 s.decls.length s.decls.length, .slice u2 s.procs.length s.procs.length, .slice u3 s.claims.length s.claims.length, .slice u4 s.body.length s.body.length] → ¬ Reach s.procs x y → ∃ B, (run Try.prog noHooks).call 9 [.agg ⟨[.string s.name, .slice u1 s.decls.length s.decls.length, .slice u2 s.procs.length s.procs.length, .slice u3 s.claims.length s.claims.length, .slice u4 s.body.length s.body.length]⟩, .string x, .string y] A = some (.val (.bool false), B) ∧ Same (fun _ => False) A B := fun A x y h hr => by
    obtain ⟨b, kn, e, hb⟩ := reach_dfs s.procs y x
    obtain ⟨o, B, e2, rfl, k⟩ := tReaches plain0 sz e h
    have : b = false := by cases b with
     | false => rfl
     | true => exact absurd (hb.1 rfl) hr
    rw [this] at e2
    exact ⟨B, e2, k⟩
   have F1 : ∀ (A : Heap) (x y : ByteArray), RSrc A (fun _ => True) s [.string s.name, .slice u1 s.decls.length s.decls.length, .slice u2 s.procs.length s.procs.length, .slice u3 s.claims.length s.claims.length, .slice u4 s.body.length s.body.length] → Reach s.procs x y → ∃ B, (run Try.prog noHooks).call 10 [.agg ⟨[.string s.name, .slice u1 s.decls.length s.decls.length, .slice u2 s.procs.length s.procs.length, .slice u3 s.claims.length s.claims.length, .slice u4 s.body.length s.body.length]⟩, .string x, .string y] A = some (.val (.bool true), B) ∧ Same (fun _ => False) A B := fun A x y h hr => by
    obtain ⟨o, B, e2, b, rfl, hb, k⟩ := rReaches plain0 sz h x y
    rw [hb.2 hr] at e2
    exact ⟨B, e2, k⟩
   have F0 : ∀ (A : Heap) (x y : ByteArray), RSrc A (fun _ => True) s [.string s.name, .slice u1 s.decls.length s.decls.length, .slice u2 s.procs.length s.procs.length, .slice u3 s.claims.length s.claims.length, .slice u4 s.body.length s.body.length] → ¬ Reach s.procs x y → ∃ B, (run Try.prog noHooks).call 10 [.agg ⟨[.string s.name, .slice u1 s.decls.length s.decls.length, .slice u2 s.procs.length s.procs.length, .slice u3 s.claims.length s.claims.length, .slice u4 s.body.length s.body.length]⟩, .string x, .string y] A = some (.val (.bool false), B) ∧ Same (fun _ => False) A B := fun A x y h hr => by
    obtain ⟨o, B, e2, b, rfl, hb, k⟩ := rReaches plain0 sz h x y
    have : b = false := by cases b with
     | false => rfl
     | true => exact absurd (hb.1 rfl) hr
    rw [this] at e2
    exact ⟨B, e2, k⟩
   simp
   by_cases h1 : Reach s.procs X Y
   · by_cases h2 : Reach s.procs Y Z
     · have h3 := h1.trans h2
       have hC := anyC_of h3
       obtain ⟨Ka0, e0, k0⟩ := R1 K X Y rK h1
       have r0 := go k0 rK
       have g0 := k0.at gK (by simp) fun h => h
       obtain ⟨Ka1, e1, k1⟩ := R1 Ka0 Y Z r0 h2
       have r1 := go k1 r0
       have g1 := k1.at g0 (by simp) fun h => h
       obtain ⟨Ka2, e2, k2⟩ := R1 Ka1 X Z r1 h3
       have r2 := go k2 r1
       have g2 := k2.at g1 (by simp) fun h => h
       obtain ⟨Ka3, e3, k3⟩ := R1 Ka2 X Z r2 h3
       have r3 := go k3 r2
       have g3 := k3.at g2 (by simp) fun h => h
       obtain ⟨Ka4, e4, k4⟩ := F1 Ka3 X Z r3 h3
       have r4 := go k4 r3
       have g4 := k4.at g3 (by simp) fun h => h
       obtain ⟨KE, eE⟩ := awake22 Ka4
       refine region_plan (by exact pl_reaches) ?_
       simp [ht, q11, q13, q14, q15, g16, gK, eE, hC, e0, g0, e1, g1, e2, g2, e3, g3, e4, g4]
     ·
      cases hC : anyC Z s.procs with
      | true =>
       by_cases h3 : Reach s.procs X Z
       ·
         obtain ⟨Kb0, e0, k0⟩ := R1 K X Y rK h1
         have r0 := go k0 rK
         have g0 := k0.at gK (by simp) fun h => h
         obtain ⟨Kb1, e1, k1⟩ := R0 Kb0 Y Z r0 h2
         have r1 := go k1 r0
         have g1 := k1.at g0 (by simp) fun h => h
         obtain ⟨Kb2, e2, k2⟩ := R1 Kb1 X Z r1 h3
         have r2 := go k2 r1
         have g2 := k2.at g1 (by simp) fun h => h
         obtain ⟨Kb3, e3, k3⟩ := F1 Kb2 X Z r2 h3
         have r3 := go k3 r2
         have g3 := k3.at g2 (by simp) fun h => h
         obtain ⟨KE, eE⟩ := awake22 Kb3
         refine region_plan (by exact pl_reaches) ?_
         simp [ht, q11, q13, q14, q15, g16, gK, eE, hC, e0, g0, e1, g1, e2, g2, e3, g3]
       ·
         obtain ⟨Kb0, e0, k0⟩ := R1 K X Y rK h1
         have r0 := go k0 rK
         have g0 := k0.at gK (by simp) fun h => h
         obtain ⟨Kb1, e1, k1⟩ := R0 Kb0 Y Z r0 h2
         have r1 := go k1 r0
         have g1 := k1.at g0 (by simp) fun h => h
         obtain ⟨Kb2, e2, k2⟩ := R0 Kb1 X Z r1 h3
         have r2 := go k2 r1
         have g2 := k2.at g1 (by simp) fun h => h
         obtain ⟨Kb3, e3, k3⟩ := F0 Kb2 X Z r2 h3
         have r3 := go k3 r2
         have g3 := k3.at g2 (by simp) fun h => h
         obtain ⟨KE, eE⟩ := awake22 Kb3
         refine region_plan (by exact pl_reaches) ?_
         simp [ht, q11, q13, q14, q15, g16, gK, eE, hC, e0, g0, e1, g1, e2, g2, e3, g3]
      | false =>
       have h3 : ¬ Reach s.procs X Z := fun r => by rw [anyC_of r] at hC; cases hC
       obtain ⟨Kb0, e0, k0⟩ := R1 K X Y rK h1
       have r0 := go k0 rK
       have g0 := k0.at gK (by simp) fun h => h
       obtain ⟨Kb1, e1, k1⟩ := R0 Kb0 Y Z r0 h2
       have r1 := go k1 r0
       have g1 := k1.at g0 (by simp) fun h => h
       obtain ⟨Kb2, e2, k2⟩ := R0 Kb1 X Z r1 h3
       have r2 := go k2 r1
       have g2 := k2.at g1 (by simp) fun h => h
       obtain ⟨Kb3, e3, k3⟩ := R0 Kb2 X Z r2 h3
       have r3 := go k3 r2
       have g3 := k3.at g2 (by simp) fun h => h
       obtain ⟨Kb4, e4, k4⟩ := F0 Kb3 X Z r3 h3
       have r4 := go k4 r3
       have g4 := k4.at g3 (by simp) fun h => h
       obtain ⟨KE, eE⟩ := awake22 Kb4
       refine region_plan (by exact pl_reaches) ?_
       simp [ht, q11, q13, q14, q15, g16, gK, eE, hC, e0, g0, e1, g1, e2, g2, e3, g3, e4, g4]
   ·
    cases hC : anyC Z s.procs with
    | true =>
     by_cases h3 : Reach s.procs X Z
     ·
       obtain ⟨Kc0, e0, k0⟩ := R0 K X Y rK h1
       have r0 := go k0 rK
       have g0 := k0.at gK (by simp) fun h => h
       obtain ⟨Kc1, e1, k1⟩ := R1 Kc0 X Z r0 h3
       have r1 := go k1 r0
       have g1 := k1.at g0 (by simp) fun h => h
       obtain ⟨Kc2, e2, k2⟩ := F1 Kc1 X Z r1 h3
       have r2 := go k2 r1
       have g2 := k2.at g1 (by simp) fun h => h
       obtain ⟨KE, eE⟩ := awake22 Kc2
       refine region_plan (by exact pl_reaches) ?_
       simp [ht, q11, q13, q14, q15, g16, gK, eE, hC, e0, g0, e1, g1, e2, g2]
     ·
       obtain ⟨Kc0, e0, k0⟩ := R0 K X Y rK h1
       have r0 := go k0 rK
       have g0 := k0.at gK (by simp) fun h => h
       obtain ⟨Kc1, e1, k1⟩ := R0 Kc0 X Z r0 h3
       have r1 := go k1 r0
       have g1 := k1.at g0 (by simp) fun h => h
       obtain ⟨Kc2, e2, k2⟩ := F0 Kc1 X Z r1 h3
       have r2 := go k2 r1
       have g2 := k2.at g1 (by simp) fun h => h
       obtain ⟨KE, eE⟩ := awake22 Kc2
       refine region_plan (by exact pl_reaches) ?_
       simp [ht, q11, q13, q14, q15, g16, gK, eE, hC, e0, g0, e1, g1, e2, g2]
    | false =>
     have h3 : ¬ Reach s.procs X Z := fun r => by rw [anyC_of r] at hC; cases hC
     obtain ⟨Kc0, e0, k0⟩ := R0 K X Y rK h1
     have r0 := go k0 rK
     have g0 := k0.at gK (by simp) fun h => h
     obtain ⟨Kc1, e1, k1⟩ := R0 Kc0 X Z r0 h3
     have r1 := go k1 r0
     have g1 := k1.at g0 (by simp) fun h => h
     obtain ⟨Kc2, e2, k2⟩ := R0 Kc1 X Z r1 h3
     have r2 := go k2 r1
     have g2 := k2.at g1 (by simp) fun h => h
     obtain ⟨Kc3, e3, k3⟩ := F0 Kc2 X Z r2 h3
     have r3 := go k3 r2
     have g3 := k3.at g2 (by simp) fun h => h
     obtain ⟨KE, eE⟩ := awake22 Kc3
     refine region_plan (by exact pl_reaches) ?_
     simp [ht, q11, q13, q14, q15, g16, gK, eE, hC, e0, g0, e1, g1, e2, g2, e3, g3]
end Go.Vm.Ring
