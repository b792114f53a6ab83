/- What is defined and proved: which procedures statements call; the program's Calls. What is defined and proved: which procedure reaches which, as the program finds it; the program's Reaches. What is proved: the reader's 'branch', and with it 'Parse' of any source. What is proved: the law's 'awake'. What is proved: the reference's count of what is in a source. What is proved: strings put together, and made into bytes. What is proved: the maker of sources goes on, whatever its numbers are: its small steps. What is proved: the maker of sources goes on: expressions, truths, items. What is proved: the maker of sources goes on: truths, conditions, items, the procedure that is called. What is proved: the maker of sources goes on: processes that begin side by side. What is proved: the maker of sources goes on: statements in rows, and regions. What is proved: the maker of sources goes on: one statement. What is proved: the maker of sources makes a text, whatever its numbers are. What is proved: a fault of 'Parse' is no zero. What is proved: 'Parse' of any bytes that a law makes; the numbers of a law's slice. What is proved: 'TreeAlike' hands back true, whatever the input. -/
import Derived.Test.YtmjldhaghaphnaaGreatDoorX5
set_option maxRecDepth 100000
set_option maxHeartbeats 4000000
set_option linter.unusedSimpArgs false
set_option linter.unusedVariables false
set_option linter.unusedSectionVars false
namespace Go.Vm.Tree
open Go Go.Proofs Go.Vm.Parse
attribute [local simp] repCells_succ writeAt rd_Fr toList_beq gpe gpn spe gse gsn
def hasN (x : ByteArray) : List ByteArray → Bool
 | [] => false
 | e :: l => decide (x = e) || hasN x l
theorem hasN_iff {x : ByteArray} : ∀ {l : List ByteArray}, hasN x l = true ↔ x ∈ l
 | [] => by simp [hasN]
 | e :: l => by simp [hasN, hasN_iff (l := l)]
def callA (k : Int) (x : ByteArray) (out : List ByteArray) : List ByteArray := if k = 6 ∧ hasN x out = false then out ++ [x] else out
mutual
def callS (out : List ByteArray) : Stm → List ByteArray
 | .mk k _ x _ bd el _ _ => callSs (callSs (callA k x out) bd) el
def callSs (out : List ByteArray) : List Stm → List ByteArray
 | [] => out
 | s :: l => callSs (callS out s) l
end
theorem callSs_snoc (out : List ByteArray) (l : List Stm) (s : Stm) : callSs out (l ++ [s]) = callS (callSs out l) s := by
 induction l generalizing out with
 | nil => simp only [List.nil_append, callSs]
 | cons a l ih => simp only [List.cons_append, callSs, ih]
theorem callSs_take (out : List ByteArray) (l : List Stm) (i : Nat) (h : i < l.length) : callSs out (l.take (i + 1)) = callS (callSs out (l.take i)) l[i] := by
 rw [List.take_succ_eq_append_getElem h, callSs_snoc]
mutual
theorem callS_len (out : List ByteArray) : ∀ s : Stm, (callS out s).length ≤ out.length + szS s
 | .mk k a x e bd el br it => by
  have h1 := callSs_len (callA k x out) bd
  have h2 := callSs_len (callSs (callA k x out) bd) el
  have h3 : (callA k x out).length ≤ out.length + 1 := by unfold callA; split <;> simp
  simp only [callS, szS]; omega
theorem callSs_len (out : List ByteArray) : ∀ l : List Stm, (callSs out l).length ≤ out.length + szSs l
 | [] => by simp only [callSs, szSs]; omega
 | s :: l => by
  have h1 := callS_len out s
  have h2 := callSs_len (callS out s) l
  simp only [callSs, szSs]; omega
end
def kn (l : List ByteArray) : List (Value × Value) := l.map fun x => (.string x, .bool true)
theorem ba_beq (a b : ByteArray) : (a == b) = decide (a = b) := by
 obtain ⟨x⟩ := a
 obtain ⟨y⟩ := b
 show (x == y) = _
 by_cases h : x = y
 · subst h; simp
 · rw [decide_eq_false (fun e => h (by cases e; rfl))]
   simpa using h
theorem find_kn (x : ByteArray) : ∀ l : List ByteArray, mapFind (.string x) (kn l) = some (if hasN x l = true then some (.bool true) else none)
 | [] => rfl
 | e :: l => by
  have ih := find_kn x l
  simp only [kn, List.map_cons] at ih ⊢
  simp only [mapFind, keyIs, ba_beq]
  by_cases h : x = e
  · subst h; simp [hasN]
  · rw [decide_eq_false h]
    simp only [ih, hasN, h, decide_false, Bool.false_or]
theorem put_kn (x : ByteArray) : ∀ l : List ByteArray, hasN x l = false → mapPut (.string x) (.bool true) (kn l) = some (kn (l ++ [x]))
 | [], _ => rfl
 | e :: l, h => by
  simp only [hasN, Bool.or_eq_false_iff, decide_eq_false_iff_not] at h
  have ih := put_kn x l h.2
  simp only [kn, List.map_cons, List.cons_append] at ih ⊢
  simp only [mapPut, keyIs, ba_beq]
  rw [decide_eq_false h.1]
  simp only [ih, Option.map_some]
theorem lk_kn {K : Heap} {m : Nat} {l : List ByteArray} (h : K.get m = .map (kn l)) (x : ByteArray) : exLookup Tryz.prog 101 (.map (some m)) (.string x) false K = some (.bool (hasN x l)) := by
 have f := find_kn x l
 by_cases e : hasN x l = true
 · rw [if_pos e] at f; simp [exLookup, keyKind, h, f, e]
 · rw [if_neg e] at f; simp [exLookup, keyKind, h, f, Bool.not_eq_true _ ▸ e]
theorem mp_kn {K : Heap} {m : Nat} {l : List ByteArray} (h : K.get m = .map (kn l)) {x : ByteArray} (e : hasN x l = false) : exMapPut Tryz.prog 101 (.map (some m)) (.string x) (.bool true) K = some (K.set m (.map (kn (l ++ [x])))) := by
 have f := put_kn x l e
 simp [exMapPut, keyKind, h, f]
def repNm : Rep ByteArray where
 k := 1
 R _ _ x cs := cs = [.string x]
 len h := by subst h; rfl
 move _ _ _ _ h := h
theorem tf_nm : TF Tryz.prog 41 1 := ⟨_, _, _, by simp, by simp, by simp; rfl, by omega, by simp; rfl, rfl, by omega, rfl⟩
def GS (B : Nat) (H : Heap) (v : Value) (l : List Stm) : Prop :=
 (v = .slice none 0 0 ∧ l = []) ∨ ∃ id tl cs, v = .slice (some ⟨id, 0, none⟩) l.length l.length ∧ id < B ∧ H.get id = .row true tl 8 cs ∧ RSs H (fun i => i < B) l cs
theorem GS.keep {B : Nat} {X : Nat → Prop} {H H' : Heap} {v : Value} {l : List Stm} (h : GS B H v l) (k : Same X H H') (hX : ∀ i, X i → B ≤ i) : GS B H' v l := by
 refine h.imp id ?_
 rintro ⟨id, tl, cs, h1, h2, h4, h5⟩
 exact ⟨id, tl, cs, h1, h2, k.at h4 (by simp) (fun h => by have := hX _ h; omega), RSs.move k (fun i hi _ => ⟨hi, fun h => by have := hX _ h; omega⟩) _ _ h5⟩
theorem GS.slice {B : Nat} {H : Heap} {v : Value} {l : List Stm} (h : GS B H v l) : ∃ b, v = .slice b l.length l.length := by
 rcases h with ⟨rfl, rfl⟩ | ⟨id, tl, cs, rfl, _⟩ <;> exact ⟨_, rfl⟩
theorem GS.at {B : Nat} {H : Heap} {b : Option Addr} {n m : Nat} {l : List Stm} (h : GS B H (.slice b n m) l) {i : Nat} (hi : i < l.length) :
  ∃ id tl cs, b = some ⟨id, 0, none⟩ ∧ id < B ∧ H.get id = .row true tl 8 cs ∧ cs.length = l.length * 8 ∧ RS H (fun i => i < B) l[i] ((cs.drop (i * 8)).take 8) := by
 rcases h with ⟨_, rfl⟩ | ⟨id, tl, cs, e, h2, h4, h5⟩
 · simp at hi
 · cases e
   exact ⟨id, tl, cs, rfl, h2, h4, repStm.L_len (repStm_L.2 h5), L_item repStm (repStm_L.2 h5) i hi⟩
theorem GS.of {S : Nat → Prop} {B : Nat} {H : Heap} {v : Value} {l : List Stm} (hS : ∀ i, S i → i < B) (h : (v = .slice none 0 0 ∧ l = []) ∨ ∃ id tl cs', v = .slice (some ⟨id, 0, none⟩) l.length l.length ∧ tl ≤ 1 ∧ S id ∧ H.get id = .row true tl 8 cs' ∧ RSs H S l cs') : GS B H v l := by
 refine h.imp id ?_
 rintro ⟨id, tl, cs, h1, _, h3, h4, h5⟩
 exact ⟨id, tl, cs, h1, hS _ h3, h4, h5.weak hS⟩
theorem GS.ofG {S : Nat → Prop} {B : Nat} {H : Heap} {v : Value} {l : List Stm} (hS : ∀ i, S i → i < B) (h : repStm.G H S v l) : GS B H v l := by
 refine h.imp id ?_
 rintro ⟨id, tl, cs, h1, _, h3, h4, h5⟩
 exact ⟨id, tl, cs, h1, hS _ h3, h4, (repStm_L.1 h5).weak fun i hi => hS i hi.1⟩
theorem st_gs {B : Nat} {H : Heap} {k a : Int} {x : ByteArray} {e : List Ex} {bd el : List Stm} {br : List Bra} {it : List Itm} {cs : List Value} (h : RS H (fun i => i < B) (.mk k a x e bd el br it) cs) :
  ∃ b1 b2 b3 b4 b5, cs = [.int .i64 k, .int .i64 a, .string x, .slice b1 e.length e.length, .slice b2 bd.length bd.length, .slice b3 el.length el.length, .slice b4 br.length br.length, .slice b5 it.length it.length] ∧
   GS B H (.slice b2 bd.length bd.length) bd ∧ GS B H (.slice b3 el.length el.length) el := by
 obtain ⟨b1, b2, b3, b4, b5, rfl, _⟩ := st_parts h
 simp only [RS] at h
 obtain ⟨v1, v2, v3, v4, v5, e0, h1, h4, h5, h2, h3⟩ := h
 simp only [List.cons.injEq] at e0
 obtain ⟨_, _, _, rfl, rfl, rfl, rfl, rfl, _⟩ := e0
 exact ⟨b1, b2, b3, b4, b5, rfl, GS.of (fun _ h => h) h2, GS.of (fun _ h => h) h3⟩
structure CW (B : Nat) (K : Heap) (S : Nat → Prop) (out : List ByteArray) : Prop where
 known : K.get (B + 2) = .row true 0 1 [.map (some (B + 1))]
 map : K.get (B + 1) = .map (kn out)
 walk : K.get (B + 3) = .row true 0 1 [.func (.func 49) #[] #[.pointer (some ⟨B + 2, 0, none⟩), .pointer (some ⟨B, 0, none⟩), .pointer (some ⟨B + 3, 0, none⟩)]]
 out : ∃ b, K.get B = .row true 0 1 [.slice b out.length out.length] ∧ repNm.G K S (.slice b out.length out.length) out
def cwX (B : Nat) (S : Nat → Prop) (i : Nat) : Prop := i = B ∨ i = B + 1 ∨ S i
section
variable {E : Hooks} (hE : Plain E)
include hE
theorem c_tWalk (args : List Value) (H : Heap) : (run Tryz.prog E).call 49 args H = callB Tryz.prog E Tryz.f49 args H := call_B Tryz.func49 rfl (by decide +kernel) (hE.no _ rfl rfl) args H
theorem c_tCalls (args : List Value) (H : Heap) : (run Tryz.prog E).call 13 args H = callB Tryz.prog E Tryz.f13 args H := call_B Tryz.func13 rfl (by decide +kernel) (hE.no _ rfl rfl) args H
def WalkOK (E : Hooks) (B : Nat) (l : List Stm) : Prop := ∀ (S : Nat → Prop) (K : Heap) (out : List ByteArray) (v : Value), (∀ i, S i → B + 4 ≤ i) → (∀ i, K.n ≤ i → S i) → B + 4 ≤ K.n → CW B K S out → GS B K v l → out.length + szSs l ≤ 90000 →
 Gives ((run Tryz.prog E).call 49 [v, .pointer (some ⟨B + 2, 0, none⟩), .pointer (some ⟨B, 0, none⟩), .pointer (some ⟨B + 3, 0, none⟩)] K) fun r K' => (∃ v, r = .val v) ∧ CW B K' S (callSs out l) ∧ Same (cwX B S) K K'
theorem walk_step (B n : Nat) (ih : ∀ a, szSs a < n → WalkOK E B a) : ∀ l, szSs l < n + 1 → WalkOK E B l := by
 intro l hn S H out v hS4 hS hB hC h1 hsz
 have ll := szSs_len l
 obtain ⟨b1, rfl⟩ := h1.slice
 rw [c_tWalk hE, callB, bodyOf]
 simp [Tryz.f49]
 refine loop_wp (fun m t K => ∃ i : Nat, i + m = l.length ∧ rd t 9 = .int .i64 i ∧ CW B K S (callSs out (l.take i)) ∧ Same (cwX B S) H K) l.length ?_ ?_
 · exact ⟨0, by omega, by simp, by simpa [callSs] using hC, Same.refl _ _⟩
 rintro m t K hk ⟨i, hm, g9, hC, kS⟩
 have ht : t.length = 40 := hk.1.trans (by simp [len_Bs])
 have hh := hk.all [1, 2, 3, 7, 8] (by decide +kernel)
 simp at hh
 obtain ⟨u1, u2, u3, u7, u8⟩ := hh
 clear hk
 have hX4 : ∀ i, cwX B S i → B ≤ i := fun i h => by
  rcases h with h | h | h
  · omega
  · omega
  · have := hS4 i h; omega
 have hKn := kS.n
 rcases Nat.lt_or_ge i l.length with hi | hi
 · obtain ⟨id1, tl1, cs1, rfl, b1', p1, l1, r1⟩ := (h1.keep kS hX4).at hi
   have hm1 := szs_mem (List.getElem_mem hi)
   have ct := callSs_take out l i hi
   have cl := callSs_len out (l.take i)
   have sl : szSs (l.take i) + szS l[i] ≤ szSs l := by
    have e : l = l.take i ++ l[i] :: l.drop (i + 1) := by rw [← List.drop_eq_getElem_cons hi, List.take_append_drop]
    have ap : ∀ a b : List Stm, szSs (a ++ b) = szSs a + szSs b := fun a b => by
     induction a with
     | nil => simp [szSs]
     | cons x a ih => simp only [List.cons_append, szSs, ih]; omega
    conv => rhs; rw [e, ap]
    simp only [szSs]; omega
   generalize l[i] = X at *
   generalize callSs out (l.take i) = O at *
   obtain ⟨k1, a1, x1, e1, bd1, el1, br1, it1, hx⟩ : ∃ k1 a1 x1 e1 bd1 el1 br1 it1, X = Stm.mk k1 a1 x1 e1 bd1 el1 br1 it1 := by cases X; exact ⟨_, _, _, _, _, _, _, _, rfl⟩
   subst hx
   obtain ⟨w1, w2, w3, w4, w5, ec, G3, G4⟩ := st_gs r1
   simp only [szS] at hm1 sl
   simp only [callS] at ct
   have hw := wrap64 ((i : Int) + 1) (by omega) (by omega)
   have kp : Same (fun _ => False) K (K.push (.row true 0 1 [.int .i64 k1, .int .i64 a1, .string x1, .slice w1 e1.length e1.length, .slice w2 bd1.length bd1.length, .slice w3 el1.length el1.length, .slice w4 br1.length br1.length, .slice w5 it1.length it1.length])) := Same.push _ _ _
   have z0 : (K.push (.row true 0 1 [.int .i64 k1, .int .i64 a1, .string x1, .slice w1 e1.length e1.length, .slice w2 bd1.length bd1.length, .slice w3 el1.length el1.length, .slice w4 br1.length br1.length, .slice w5 it1.length it1.length])).get K.n = .row true 0 1 [.int .i64 k1, .int .i64 a1, .string x1, .slice w1 e1.length e1.length, .slice w2 bd1.length bd1.length, .slice w3 el1.length el1.length, .slice w4 br1.length br1.length, .slice w5 it1.length it1.length] := Heap.get_push_self _ _
   have n1 : (K.push (.row true 0 1 [.int .i64 k1, .int .i64 a1, .string x1, .slice w1 e1.length e1.length, .slice w2 bd1.length bd1.length, .slice w3 el1.length el1.length, .slice w4 br1.length br1.length, .slice w5 it1.length it1.length])).n = K.n + 1 := rfl
   simp [ht, u1, u2, u3, u7, u8, g9, hi, p1, l1, show i * 8 + 8 ≤ l.length * 8 by omega, ec, z_stm]
   generalize hK1 : K.push (.row true 0 1 [.int .i64 k1, .int .i64 a1, .string x1, .slice w1 e1.length e1.length, .slice w2 bd1.length bd1.length, .slice w3 el1.length el1.length, .slice w4 br1.length br1.length, .slice w5 it1.length it1.length]) = K1 at *
   obtain ⟨q1, q2, q3, b, q4, q5⟩ := hC
   have q1' := kp.at q1 (by simp) fun h => h
   have q2' := kp.at q2 (by simp) fun h => h
   have q3' := kp.at q3 (by simp) fun h => h
   have q4' := kp.at q4 (by simp) fun h => h
   have lk := lk_kn q2' x1
   have fin : ∀ K2, Same (cwX B S) K K2 → K.n + 1 ≤ K2.n → K2.get K.n = .row true 0 1 [.int .i64 k1, .int .i64 a1, .string x1, .slice w1 e1.length e1.length, .slice w2 bd1.length bd1.length, .slice w3 el1.length el1.length, .slice w4 br1.length br1.length, .slice w5 it1.length it1.length] → CW B K2 (fun i => S i ∧ i ≠ K.n) (callA k1 x1 O) →
     ∃ r1 r2 K3 K4, (run Tryz.prog E).call 49 [.slice w2 bd1.length bd1.length, .pointer (some ⟨B + 2, 0, none⟩), .pointer (some ⟨B, 0, none⟩), .pointer (some ⟨B + 3, 0, none⟩)] K2 = some (.val r1, K3) ∧
      K2.get (B + 3) = .row true 0 1 [.func (.func 49) #[] #[.pointer (some ⟨B + 2, 0, none⟩), .pointer (some ⟨B, 0, none⟩), .pointer (some ⟨B + 3, 0, none⟩)]] ∧
      K3.get (B + 3) = .row true 0 1 [.func (.func 49) #[] #[.pointer (some ⟨B + 2, 0, none⟩), .pointer (some ⟨B, 0, none⟩), .pointer (some ⟨B + 3, 0, none⟩)]] ∧ K3.get K.n = .row true 0 1 [.int .i64 k1, .int .i64 a1, .string x1, .slice w1 e1.length e1.length, .slice w2 bd1.length bd1.length, .slice w3 el1.length el1.length, .slice w4 br1.length br1.length, .slice w5 it1.length it1.length] ∧
      (run Tryz.prog E).call 49 [.slice w3 el1.length el1.length, .pointer (some ⟨B + 2, 0, none⟩), .pointer (some ⟨B, 0, none⟩), .pointer (some ⟨B + 3, 0, none⟩)] K3 = some (.val r2, K4) ∧ CW B K4 S (callSs (callSs (callA k1 x1 O) bd1) el1) ∧ Same (cwX B S) H K4 := by
    intro K2 k2 n2 z2 C2
    have hS1 : ∀ i, S i ∧ i ≠ K.n → B + 4 ≤ i := fun i h => hS4 i h.1
    have al : (callA k1 x1 O).length ≤ O.length + 1 := by unfold callA; split <;> simp
    have bl := callSs_len (callA k1 x1 O) bd1
    have hKn0 : H.n ≤ K.n := hKn
    obtain ⟨o3, K3, e3, ⟨r3, rfl⟩, C3, k3⟩ := ih bd1 (by omega) (fun i => S i ∧ i ≠ K.n) K2 _ _ hS1 (fun i h => ⟨hS i (by omega), by omega⟩) (by have := k2.n; omega) C2 (G3.keep k2 hX4) (by omega)
    have hX1 : ∀ i, cwX B (fun i => S i ∧ i ≠ K.n) i → cwX B S i := fun i h => h.imp id (fun h => h.imp id And.left)
    have nK : ¬ cwX B (fun i => S i ∧ i ≠ K.n) K.n := fun h => by rcases h with h | h | h <;> omega
    obtain ⟨o4, K4, e4, ⟨r4, rfl⟩, C4, k4⟩ := ih el1 (by omega) (fun i => S i ∧ i ≠ K.n) K3 _ _ hS1 (fun i h => ⟨hS i (by have := k3.n; omega), by have := k3.n; omega⟩) (by have := k3.n; have := k2.n; omega) C3 ((G4.keep k2 hX4).keep k3 fun i h => hX4 i (hX1 i h)) (by omega)
    refine ⟨r3, r4, K3, K4, e3, C2.walk, C3.walk, k3.at z2 (by simp) nK, e4, ⟨C4.known, C4.map, C4.walk, ?_⟩, ((kS.trans k2).trans (k3.mono hX1)).trans (k4.mono hX1)⟩
    obtain ⟨b, g1, g2⟩ := C4.out
    exact ⟨b, g1, repNm.G_move (Same.refl (fun _ => False) K4) (fun i h _ => ⟨h.1, fun h => h⟩) g2⟩
   by_cases d1 : ¬ k1 = 6
   · have c1 : callA k1 x1 O = O := by simp [callA, d1]
     obtain ⟨r1, r2, K3, K4, e3, z3, z4, z5, e4, hf⟩ := fin K1 (Same.none kp) (by omega) z0 (by rw [c1]; exact ⟨q1', q2', q3', b, q4', repNm.G_move kp (fun i h hl => ⟨⟨h, by omega⟩, fun h => h⟩) q5⟩)
     simp [ht, u1, u2, u3, u7, u8, z0, d1, z3, e3, z4, z5, e4, g9, hw]
     exact ⟨m - 1, by omega, i + 1, by omega, by simp [ht], by rw [ct]; exact hf.1, hf.2⟩
   have d1 : k1 = 6 := Classical.not_not.1 d1
   cases d2 : hasN x1 O with
   | true =>
    have c1 : callA k1 x1 O = O := by simp [callA, d2]
    obtain ⟨r1, r2, K3, K4, e3, z3, z4, z5, e4, hf⟩ := fin K1 (Same.none kp) (by omega) z0 (by rw [c1]; exact ⟨q1', q2', q3', b, q4', repNm.G_move kp (fun i h hl => ⟨⟨h, by omega⟩, fun h => h⟩) q5⟩)
    rw [d2] at lk
    simp [ht, u1, u2, u3, u7, u8, z0, d1, q1', lk, z3, e3, z4, z5, e4, g9, hw]
    exact ⟨m - 1, by omega, i + 1, by omega, by simp [ht], by rw [ct]; exact hf.1, hf.2⟩
   | false =>
    rw [d2] at lk
    have mp := mp_kn q2' d2
    have c1 : callA k1 x1 O = O ++ [x1] := by simp [callA, d1, d2]
    have kM : Same (fun i => i = B + 1) K1 (K1.set (B + 1) (.map (kn (O ++ [x1])))) := Same.set (X := fun i => i = B + 1) K1 (by omega) rfl _
    have gM : (K1.set (B + 1) (.map (kn (O ++ [x1])))).get (B + 1) = .map (kn (O ++ [x1])) := Heap.get_set_self _ _ (by omega)
    have nM : (K1.set (B + 1) (.map (kn (O ++ [x1])))).n = K.n + 1 := by simp [n1]
    generalize hK2 : K1.set (B + 1) (.map (kn (O ++ [x1]))) = K2 at *
    have m1 := kM.at q1' (by simp) (by omega)
    have m3 := kM.at q3' (by simp) (by omega)
    have m4 := kM.at q4' (by simp) (by omega)
    have mz := kM.at z0 (by simp) (by omega)
    have G2 : repNm.G K2 (fun i => S i ∧ i ≠ K.n) (.slice b O.length O.length) O := repNm.G_move ((Same.none kp).trans kM) (fun i h hl => ⟨⟨h, by omega⟩, by have := hS4 i h; omega⟩) q5
    obtain ⟨v', K4, e5, G5, k5⟩ := repNm.G_app tf_nm G2 (fun i h => ⟨hS i (by omega), by omega⟩) (by omega) (a := x1) (c := [.string x1]) rfl
    have vS : ∀ i, vid (.slice b O.length O.length) i → S i ∧ i ≠ K.n := fun i hi => (repNm.G_lt G2 hi).2
    obtain ⟨b5, rfl⟩ := repNm.G_slice G5
    have hlen : (O ++ [x1]).length = O.length + 1 := by simp
    rw [hlen] at e5 G5
    have hk0 : repNm.k = 1 := rfl
    rw [hk0] at e5
    have hB4 : ∀ i, i < B + 4 → ¬ vid (.slice b O.length O.length) i := fun i hi h => by have := hS4 i (vS i h).1; omega
    have s1 := k5.at m1 (by simp) (hB4 _ (by omega))
    have s2 := k5.at gM (by simp) (hB4 _ (by omega))
    have s3 := k5.at m3 (by simp) (hB4 _ (by omega))
    have s4 := k5.at m4 (by simp) (hB4 _ (by omega))
    have sz := k5.at mz (by simp) fun h => (vS _ h).2 rfl
    have n5 := k5.n
    have kB : Same (fun i => i = B) K4 (K4.set B (.row true 0 1 [.slice b5 (O.length + 1) (O.length + 1)])) := Same.set (X := fun i => i = B) K4 (by omega) rfl _
    have gB : (K4.set B (.row true 0 1 [.slice b5 (O.length + 1) (O.length + 1)])).get B = .row true 0 1 [.slice b5 (O.length + 1) (O.length + 1)] := Heap.get_set_self _ _ (by omega)
    have nB : (K4.set B (.row true 0 1 [.slice b5 (O.length + 1) (O.length + 1)])).n = K4.n := by simp
    have kAll : Same (cwX B S) K (K4.set B (.row true 0 1 [.slice b5 (O.length + 1) (O.length + 1)])) := (((Same.none kp).trans (kM.mono fun i h => .inr (.inl h))).trans (k5.mono fun i h => .inr (.inr (vS i h).1))).trans (kB.mono fun i h => .inl h)
    obtain ⟨r1, r2, K6, K7, e3, z3, z4, z5, e4, hf⟩ := fin _ kAll (by omega) (kB.at sz (by simp) (by omega)) (by
     rw [c1]
     refine ⟨kB.at s1 (by simp) (by omega), kB.at s2 (by simp) (by omega), kB.at s3 (by simp) (by omega), b5, by rw [hlen]; exact gB, ?_⟩
     rw [hlen]
     exact repNm.G_move kB (fun i h hl => ⟨h, by have := hS4 i h.1; omega⟩) G5)
    have z0b := kB.at sz (by simp) (by omega)
    simp [ht, u1, u2, u3, u7, u8, z0, d1, q1', lk, mp, m4, mz, e5, s4, s3, sz, z0b, z3, e3, z4, z5, e4, g9, hw]
    exact ⟨m - 1, by omega, i + 1, by omega, by simp [ht], by rw [ct]; exact hf.1, hf.2⟩
 · have e : i = l.length := by omega
   rw [e, List.take_length] at hC
   simp [ht, u1, u2, u3, u7, u8, g9, show ¬ i < l.length by omega]
   exact ⟨hC, kS⟩
theorem walk_run (B : Nat) : ∀ n l, szSs l < n → WalkOK E B l := by
 intro n
 induction n with
 | zero => intro l h; omega
 | succ n ih => exact walk_step hE B n ih
theorem tCalls {l : List Stm} (hl : szSs l ≤ 90000) {H : Heap} {v : Value} (h1 : GS H.n H v l) :
  Gives ((run Tryz.prog E).call 13 [v] H) fun o H' => ∃ b, o = .val (.slice b (callSs [] l).length (callSs [] l).length) ∧ Same (fun _ => False) H H' ∧ repNm.G H' (fun i => H.n ≤ i) (.slice b (callSs [] l).length (callSs [] l).length) (callSs [] l) := by
 have zs : zeroT Tryz.prog 41 = some (.slice none 0 0) := by kernel_rfl
 have zm : zeroT Tryz.prog 101 = some (.map none) := by kernel_rfl
 have zf : zeroT Tryz.prog 102 = some .nilFunc := by kernel_rfl
 rw [c_tCalls hE, callB, bodyOf]
 obtain ⟨K, hK⟩ : ∃ K, K = (((H.push (.row true 0 1 [.slice none 0 0])).push (.map [])).push (.row true 0 1 [.map (some (H.n + 1))])).push (.row true 0 1 [.func (.func 49) #[] #[.pointer (some ⟨H.n + 1 + 1, 0, none⟩), .pointer (some ⟨H.n, 0, none⟩), .pointer (some ⟨H.n + 1 + 1 + 1, 0, none⟩)]]) := ⟨_, rfl⟩
 have nK : K.n = H.n + 4 := by rw [hK]; rfl
 have kK : Same (fun _ => False) H K := by rw [hK]; exact (((Same.push _ _ _).then_push _).then_push _).then_push _
 have hC : CW H.n K (fun i => H.n + 4 ≤ i) [] := ⟨by rw [hK]; simp [Heap.get_push], by rw [hK]; simp [Heap.get_push, kn], by rw [hK]; simp [Heap.get_push], none, by rw [hK]; simp [Heap.get_push, show ¬ H.n = H.n + 1 + 1 + 1 by omega, show ¬ H.n = H.n + 1 + 1 by omega], .inl ⟨rfl, rfl⟩⟩
 obtain ⟨o, K2, e2, ⟨v2, rfl⟩, C2, k2⟩ := walk_run hE H.n (szSs l + 1) l (by omega) (fun i => H.n + 4 ≤ i) K [] v (fun i h => h) (fun i h => by omega) (by omega) hC (h1.keep kK (fun i h => h.elim)) (by simp; omega)
 obtain ⟨b, g1, g2⟩ := C2.out
 simp [Tryz.f13, zs, zm, zf]
 rw [← hK]
 have l2 : H.n < K2.n := Heap.lt_of_get g1 (by simp)
 have gS : ∀ o, (K2.set H.n o).get H.n = o := fun o => Heap.get_set_self _ _ l2
 simp [e2, g1, gS]
 exact ⟨(kK.then k2 fun i hi => .inr (by rcases hi with h | h | h <;> omega)).then_set l2 (.inr (by omega)) _, repNm.G_move (Same.set (X := fun i => i = H.n) K2 l2 rfl _) (fun i h _ => ⟨by omega, fun h => by omega⟩) g2⟩
end
def idxP (x : ByteArray) : List Prc → Nat
 | [] => 0
 | p :: l => if p.name = x then 0 else idxP x l + 1
def reachL (f : List ByteArray → ByteArray → Option (Bool × List ByteArray)) (to : ByteArray) : List ByteArray → List ByteArray → Option (Bool × List ByteArray)
 | kn, [] => some (false, kn)
 | kn, x :: l => if x = to then some (true, kn) else (f kn x).bind fun r => if r.1 = true then some (true, r.2) else reachL f to r.2 l
def reachP (ps : List Prc) (to : ByteArray) : Nat → List ByteArray → ByteArray → Option (Bool × List ByteArray)
 | 0, _, _ => none
 | n + 1, kn, x => (ps[idxP x ps]?).elim (some (false, kn)) fun p => if hasN x kn = true then some (false, kn) else reachL (reachP ps to n) to (kn ++ [x]) (callSs [] p.body)
structure RW (s : Src) (to : ByteArray) (cs : List Value) (B : Nat) (K : Heap) (out : List ByteArray) : Prop where
 src : K.get B = .row true 0 1 cs
 to : K.get (B + 1) = .row true 0 1 [.string to]
 map : K.get (B + 2) = .map (kn out)
 known : K.get (B + 3) = .row true 0 1 [.map (some (B + 2))]
 walk : K.get (B + 4) = .row true 0 1 [.func (.func 50) #[] #[.pointer (some ⟨B, 0, none⟩), .pointer (some ⟨B + 3, 0, none⟩), .pointer (some ⟨B + 1, 0, none⟩), .pointer (some ⟨B + 4, 0, none⟩)]]
 rep : RSrc K (fun i => i < B) s cs
theorem RW.keep {s : Src} {to : ByteArray} {cs : List Value} {B : Nat} {K K' : Heap} {out : List ByteArray} (h : RW s to cs B K out) {X : Nat → Prop} (k : Same X K K') (hX : ∀ i, i < B + 5 → ¬ X i) : RW s to cs B K' out :=
 ⟨k.at h.src (by simp) (hX _ (by omega)), k.at h.to (by simp) (hX _ (by omega)), k.at h.map (by simp) (hX _ (by omega)), k.at h.known (by simp) (hX _ (by omega)), k.at h.walk (by simp) (hX _ (by omega)), RSrc.move k (fun i hi _ => ⟨hi, hX _ (by omega)⟩) h.rep⟩
theorem RW.lt {s : Src} {to : ByteArray} {cs : List Value} {B : Nat} {K : Heap} {out : List ByteArray} (h : RW s to cs B K out) : B + 5 ≤ K.n := Heap.lt_of_get h.walk (by simp)
section
variable {E : Hooks} (hE : Plain E)
include hE
theorem c_tIdxP (args : List Value) (H : Heap) : (run Tryz.prog E).call 51 args H = callB Tryz.prog E Tryz.f51 args H := call_B Tryz.func51 rfl (by decide +kernel) (hE.no _ rfl rfl) args H
theorem c_tR11 (args : List Value) (H : Heap) : (run Tryz.prog E).call 52 args H = callB Tryz.prog E Tryz.f52 args H := call_B Tryz.func52 rfl (by decide +kernel) (hE.no _ rfl rfl) args H
theorem c_tIdxS (args : List Value) (H : Heap) : (run Tryz.prog E).call 79 args H = callB Tryz.prog E Tryz.f79 args H := call_B Tryz.func79 rfl (by decide +kernel) (hE.no _ rfl rfl) args H
theorem c_tCont (args : List Value) (H : Heap) : (run Tryz.prog E).call 53 args H = callB Tryz.prog E Tryz.f53 args H := call_B Tryz.func53 rfl (by decide +kernel) (hE.no _ rfl rfl) args H
theorem c_tR12 (args : List Value) (H : Heap) : (run Tryz.prog E).call 54 args H = callB Tryz.prog E Tryz.f54 args H := call_B Tryz.func54 rfl (by decide +kernel) (hE.no _ rfl rfl) args H
theorem c_tR1 (args : List Value) (H : Heap) : (run Tryz.prog E).call 50 args H = callB Tryz.prog E Tryz.f50 args H := call_B Tryz.func50 rfl (by decide +kernel) (hE.no _ rfl rfl) args H
theorem c_tReaches (args : List Value) (H : Heap) : (run Tryz.prog E).call 14 args H = callB Tryz.prog E Tryz.f14 args H := call_B Tryz.func14 rfl (by decide +kernel) (hE.no _ rfl rfl) args H
theorem idxProc {ps : List Prc} (hl : ps.length ≤ 100000) {H : Heap} {v : Value} (h1 : GT repPrc H v ps) {nid : Nat} {x : ByteArray} (hn : H.get nid = .row true 0 1 [.string x]) :
  Gives ((run Tryz.prog E).call 51 [v, .func (.func 52) #[] #[.pointer (some ⟨nid, 0, none⟩)]] H) fun o H' => o = .val (.int .i64 (if idxP x ps < ps.length then (idxP x ps : Int) else -1)) ∧ Same (fun _ => False) H H' := by
 obtain ⟨b1, rfl⟩ := h1.slice
 rw [c_tIdxP hE, callB, bodyOf]
 simp [Tryz.f51]
 refine loop_wp (fun m t K => ∃ i : Nat, i + m = ps.length ∧ rd t 8 = .int .i64 i ∧ idxP x ps = i + idxP x (ps.drop i) ∧ Same (fun _ => False) H K) ps.length ?_ ?_
 · exact ⟨0, by omega, by simp, by simp, Same.refl _ _⟩
 rintro m t K hk ⟨i, hm, g8, hx, kS⟩
 have ht : t.length = 19 := hk.1.trans (by simp [len_Bs])
 have hh := hk.all [0, 1, 7] (by decide +kernel)
 simp at hh
 obtain ⟨u0, u1, u7⟩ := hh
 clear hk
 rcases Nat.lt_or_ge i ps.length with hi | hi
 · obtain ⟨id1, tl1, cs1, rfl, -, -, p1, l1, r1⟩ := (h1.keep kS).at hi
   rw [List.drop_eq_getElem_cons hi] at hx
   generalize ps[i] = X at *
   have hk0 : repPrc.k = 5 := rfl
   rw [hk0] at p1 l1 r1
   obtain ⟨w1, w2, w3, ec, -⟩ := pr_parts r1
   simp only [pc5] at ec
   have hw := wrap64 ((i : Int) + 1) (by omega) (by omega)
   have kp : Same (fun _ => False) K (K.push (.row true 0 1 [.int .i64 X.at_, .string X.name, .slice w1 X.params.length X.params.length, .slice w2 X.vars.length X.vars.length, .slice w3 X.body.length X.body.length])) := Same.push _ _ _
   have gn := (kS.trans kp).at hn (by simp) fun h => h
   simp only [idxP] at hx
   by_cases d : X.name = x
   · rw [if_pos d] at hx
     subst d
     simp [ht, u0, u1, u7, g8, hi, p1, l1, show i * 5 + 5 ≤ ps.length * 5 by omega, ec, z_prc]
     rw [c_tR11 hE, callB, bodyOf]
     simp [Tryz.f52, ht, u0, u1, u7, g8, gn]
     have hx2 : idxP X.name ps = i := by omega
     simp [hx2, hi]
     exact kS.trans kp
   · rw [if_neg d] at hx
     simp [ht, u0, u1, u7, g8, hi, p1, l1, show i * 5 + 5 ≤ ps.length * 5 by omega, ec, z_prc]
     rw [c_tR11 hE, callB, bodyOf]
     simp [Tryz.f52, ht, u0, u1, u7, g8, gn, d, hw]
     exact ⟨m - 1, by omega, i + 1, by omega, by simp [ht], by omega, kS.trans kp⟩
 · have e : i = ps.length := by omega
   subst e
   simp only [List.drop_length, idxP] at hx
   simp [ht, u0, u1, u7, g8]
   exact ⟨by omega, kS⟩
def ReachOK (E : Hooks) (s : Src) (to : ByteArray) (cs : List Value) (B : Nat) (f : List ByteArray → ByteArray → Option (Bool × List ByteArray)) : Prop :=
 ∀ out x b out', f out x = some (b, out') → ∀ K, RW s to cs B K out → Gives ((run Tryz.prog E).call 50 [.string x, .pointer (some ⟨B, 0, none⟩), .pointer (some ⟨B + 3, 0, none⟩), .pointer (some ⟨B + 1, 0, none⟩), .pointer (some ⟨B + 4, 0, none⟩)] K) fun o K' => o = .val (.bool b) ∧ RW s to cs B K' out' ∧ Same (fun i => i = B + 2) K K'
theorem idxNames {s : Src} {to : ByteArray} {cs : List Value} {B : Nat} {f : List ByteArray → ByteArray → Option (Bool × List ByteArray)} (hf : ReachOK E s to cs B f) {l : List ByteArray} (hl : l.length ≤ 100000) {out out' : List ByteArray} {b : Bool}
  (hr : reachL f to out l = some (b, out')) {H : Heap} {v : Value} (hW : RW s to cs B H out) (h1 : repNm.G H (fun i => B + 5 ≤ i) v l) :
  Gives ((run Tryz.prog E).call 79 [v, .func (.func 54) #[] #[.pointer (some ⟨B + 1, 0, none⟩), .pointer (some ⟨B + 4, 0, none⟩)]] H) fun o K' => ∃ z : Int, o = .val (.int .i64 z) ∧ (0 ≤ z ↔ b = true) ∧ RW s to cs B K' out' ∧ Same (fun i => i = B + 2) H K' := by
 obtain ⟨b1, rfl⟩ := repNm.G_slice h1
 rw [c_tIdxS hE, callB, bodyOf]
 simp [Tryz.f79]
 refine loop_wp (fun m t K => ∃ (i : Nat) (O : List ByteArray), i + m = l.length ∧ rd t 8 = .int .i64 i ∧ reachL f to O (l.drop i) = some (b, out') ∧ RW s to cs B K O ∧ Same (fun i => i = B + 2) H K) l.length ?_ ?_
 · exact ⟨0, out, by omega, by simp, by simpa using hr, hW, Same.refl _ _⟩
 rintro m t K hk ⟨i, O, hm, g8, hx, hO, kS⟩
 have ht : t.length = 19 := hk.1.trans (by simp [len_Bs])
 have hh := hk.all [0, 1, 7] (by decide +kernel)
 simp at hh
 obtain ⟨u0, u1, u7⟩ := hh
 clear hk
 rcases Nat.lt_or_ge i l.length with hi | hi
 · obtain ⟨id1, tl1, cs1, hbb, -, -, p1, l1, r1⟩ := (GT.of repNm (repNm.G_move (S' := fun i => B + 5 ≤ i) kS (fun i hi _ => ⟨hi, by omega⟩) h1)).at hi
   subst hbb
   rw [List.drop_eq_getElem_cons hi] at hx
   generalize l[i] = X at *
   have hk0 : repNm.k = 1 := rfl
   rw [hk0] at p1 l1 r1
   have ec : (cs1.drop (i * 1)).take 1 = [.string X] := r1
   have hw := wrap64 ((i : Int) + 1) (by omega) (by omega)
   have q1 := hO.to; have q4 := hO.walk
   simp only [Nat.mul_one] at ec l1
   simp only [reachL] at hx
   have hi1 : i < cs1.length := by omega
   have p2 : cs1[i] = .string X := by
    have := congrArg (·[0]?) ec
    simp [List.getElem?_eq_getElem hi1] at this
    exact this
   by_cases d : X = to
   · rw [if_pos d] at hx
     simp only [Option.some.injEq, Prod.mk.injEq] at hx
     obtain ⟨rfl, rfl⟩ := hx
     simp [ht, u0, u1, u7, g8, hi, p1, l1, p2]
     rw [c_tR12 hE, callB, bodyOf]
     simp [Tryz.f54, ht, u0, u1, u7, g8, q1, q4, d]
     exact ⟨hO, kS⟩
   · rw [if_neg d] at hx
     cases hfx : f O X with
     | none => rw [hfx] at hx; cases hx
     | some r =>
      obtain ⟨b9, O9⟩ := r
      rw [hfx] at hx
      simp only [Option.bind_some] at hx
      obtain ⟨o, K9, e9, rfl, hO9, k9⟩ := hf _ _ _ _ hfx K hO
      simp [ht, u0, u1, u7, g8, hi, p1, l1, p2]
      rw [c_tR12 hE, callB, bodyOf]
      cases b9 with
      | true =>
       simp only [if_true, Option.some.injEq, Prod.mk.injEq] at hx
       obtain ⟨rfl, rfl⟩ := hx
       simp [Tryz.f54, ht, u0, u1, u7, g8, q1, q4, d, e9]
       exact ⟨hO9, kS.trans k9⟩
      | false =>
       simp at hx
       simp [Tryz.f54, ht, u0, u1, u7, g8, q1, q4, d, e9, hw]
       exact ⟨m - 1, by omega, i + 1, by omega, by simp [ht], O9, hx, hO9, kS.trans k9⟩
 · have e : i = l.length := by omega
   subst e
   simp only [List.drop_length, reachL, Option.some.injEq, Prod.mk.injEq] at hx
   obtain ⟨rfl, rfl⟩ := hx
   simp [ht, u0, u1, u7, g8]
   exact ⟨hO, kS⟩
theorem contains_run {s : Src} {to : ByteArray} {cs : List Value} {B : Nat} {f : List ByteArray → ByteArray → Option (Bool × List ByteArray)} (hf : ReachOK E s to cs B f) {l : List ByteArray} (hl : l.length ≤ 100000) {out out' : List ByteArray} {b : Bool}
  (hr : reachL f to out l = some (b, out')) {H : Heap} {v : Value} (hW : RW s to cs B H out) (h1 : repNm.G H (fun i => B + 5 ≤ i) v l) :
  Gives ((run Tryz.prog E).call 53 [v, .func (.func 54) #[] #[.pointer (some ⟨B + 1, 0, none⟩), .pointer (some ⟨B + 4, 0, none⟩)]] H) fun o K' => o = .val (.bool b) ∧ RW s to cs B K' out' ∧ Same (fun i => i = B + 2) H K' := by
 obtain ⟨o, K', e1, z, rfl, hz, hW', k⟩ := idxNames hE hf hl hr hW h1
 obtain ⟨b1, rfl⟩ := repNm.G_slice h1
 rw [c_tCont hE, callB, bodyOf]
 simp [Tryz.f53, e1]
 refine ⟨?_, hW', k⟩
 cases b <;> simp at hz ⊢ <;> omega
theorem reach_run (s : Src) (to : ByteArray) (cs : List Value) (B : Nat) (hs : SrcSz s) : ∀ n, ReachOK E s to cs B (reachP s.procs to n) := by
 intro n
 induction n with
 | zero => intro out x b out' h; simp [reachP] at h
 | succ n ih =>
  intro out x b out' hr H hW
  have hlt := hW.lt
  have lp := szPs_len s.procs
  have lq := hs.p
  have kp : Same (fun _ => False) H (H.push (.row true 0 1 [.string x])) := Same.push _ _ _
  have hW1 := hW.keep kp (fun i _ h => h)
  have gx : (H.push (.row true 0 1 [.string x])).get H.n = .row true 0 1 [.string x] := Heap.get_push_self _ _
  have n1 : (H.push (.row true 0 1 [.string x])).n = H.n + 1 := rfl
  generalize hH1 : H.push (.row true 0 1 [.string x]) = H1 at *
  obtain ⟨v1, v2, v3, v4, ec, r1, r2, r3, r4⟩ := hW1.rep
  obtain ⟨b1, rfl⟩ := repDcl.G_slice r1; obtain ⟨b2, rfl⟩ := repPrc.G_slice r2; obtain ⟨b3, rfl⟩ := repItm.G_slice r3; obtain ⟨b4, rfl⟩ := repStm.G_slice r4
  have g0 := hW1.src
  rw [ec] at g0
  simp only [sr5] at g0
  obtain ⟨o, H2, e2, rfl, k2⟩ := idxProc hE (by omega) (GT.of repPrc r2) gx
  have hW2 := hW1.keep k2 (fun i _ h => h)
  have gx2 := k2.at gx (by simp) fun h => h
  have gk := hW2.known
  have lk := lk_kn hW2.map x
  rw [c_tR1 hE, callB, bodyOf]
  simp only [reachP] at hr
  rcases Nat.lt_or_ge (idxP x s.procs) s.procs.length with hi | hi
  · rw [if_pos hi] at e2
    rw [List.getElem?_eq_getElem hi] at hr
    simp only [Option.elim_some] at hr
    cases hk : hasN x out with
    | true =>
     rw [hk] at hr lk
     simp at hr
     obtain ⟨rfl, rfl⟩ := hr
     simp [Tryz.f50]
     rw [hH1]
     simp [g0, e2, gk, gx2, lk, show ¬ ((idxP x s.procs : Int) < 0) by omega]
     exact ⟨hW2, (Same.none kp).trans (Same.none k2)⟩
    | false =>
     rw [hk] at hr lk
     simp at hr
     have mp := mp_kn hW2.map hk
     have l2 : B + 2 < H2.n := by have := hW2.lt; omega
     have k3 : Same (fun i => i = B + 2) H2 (H2.set (B + 2) (.map (kn (out ++ [x])))) := Same.set (X := fun i => i = B + 2) H2 l2 rfl _
     have g3 : (H2.set (B + 2) (.map (kn (out ++ [x])))).get (B + 2) = .map (kn (out ++ [x])) := Heap.get_set_self _ _ l2
     have n3 : (H2.set (B + 2) (.map (kn (out ++ [x])))).n = H2.n := rfl
     generalize hH3 : H2.set (B + 2) (.map (kn (out ++ [x]))) = H3 at *
     have hW3 : RW s to cs B H3 (out ++ [x]) := ⟨k3.at hW2.src (by simp) (by omega), k3.at hW2.to (by simp) (by omega), g3, k3.at hW2.known (by simp) (by omega), k3.at hW2.walk (by simp) (by omega), RSrc.move k3 (fun i hi _ => ⟨hi, by omega⟩) hW2.rep⟩
     have rr : repPrc.G H3 (fun i => i < B) (.slice b2 s.procs.length s.procs.length) s.procs := repPrc.G_move (Same.trans (Same.none k2) k3) (fun i hi _ => ⟨hi, by omega⟩) r2
     have g0' := hW3.src
     rw [ec] at g0'
     simp only [sr5] at g0'
     obtain ⟨id1, tl1, cs1, hbb, -, -, p1, l1, rr1⟩ := (GT.of repPrc rr).at hi
     subst hbb
     obtain ⟨id1', tl1', cs1', hbb', _, hid, p1', rr2⟩ := rr.resolve_left (by simp)
     simp only [Value.slice.injEq, Option.some.injEq, Addr.mk.injEq] at hbb'
     obtain ⟨⟨rfl, -⟩, -⟩ := hbb'
     rw [p1] at p1'
     simp only [AObj.row.injEq, true_and] at p1'
     obtain ⟨rfl, rfl⟩ := p1'
     have rr3 := L_item repPrc rr2 _ hi
     clear rr1
     have hmem := List.getElem_mem hi
     have hpm := szPs_mem hmem
     generalize s.procs[idxP x s.procs] = X at *
     obtain ⟨w1, w2, w3, ec1, -⟩ := pr_parts rr3
     obtain ⟨w1', w2', w3', ec2, -, -, gb⟩ := rr3
     rw [ec1] at ec2
     simp only [pc5, List.cons.injEq, and_true, true_and] at ec2
     obtain ⟨rfl, rfl, rfl⟩ := ec2
     have hk0 : repPrc.k = 5 := rfl
     rw [hk0] at p1 l1 ec1
     simp only [pc5] at ec1
     have p5 : cs1[idxP x s.procs * 5 + 4]? = some (.slice w3 X.body.length X.body.length) := by
      have := congrArg (·[4]?) ec1
      simpa [List.getElem?_take, List.getElem?_drop] using this
     have hbody : szSs X.body ≤ 90000 := by simp only [szP] at hpm; omega
     have gS : GS H3.n H3 (.slice w3 X.body.length X.body.length) X.body := GS.ofG (fun i hi => by have := hW3.lt; have := hi.1; omega) gb
     obtain ⟨o, H4, e4, b9, rfl, k4, g4⟩ := tCalls hE hbody gS
     have hW4 := hW3.keep k4 (fun i _ h => h)
     have hlen := callSs_len [] X.body
     obtain ⟨o, H5, e5, rfl, hW5, k5⟩ := contains_run hE ih (by simp at hlen; omega) hr hW4 (repNm.G_move (Same.refl (fun _ => False) _) (fun i hi _ => ⟨by have := hW3.lt; omega, fun h => h⟩) g4)
     simp [Tryz.f50]
     rw [hH1]
     simp [g0, e2, gk, gx2, lk, show ¬ ((idxP x s.procs : Int) < 0) by omega, mp]
     simp [g0', hi, p1, l1, p5, e4, e5]
     exact ⟨hW5, ((((Same.none kp).trans (Same.none k2)).trans k3).trans (Same.none k4)).trans k5⟩
  · rw [if_neg (by omega)] at e2
    rw [List.getElem?_eq_none hi] at hr
    simp at hr
    obtain ⟨rfl, rfl⟩ := hr
    simp [Tryz.f50]
    rw [hH1]
    simp [g0, e2]
    exact ⟨hW2, (Same.none kp).trans (Same.none k2)⟩
theorem tReaches {s : Src} (hs : SrcSz s) {frm to : ByteArray} {n : Nat} {b : Bool} {out' : List ByteArray} (hr : reachP s.procs to n [] frm = some (b, out')) {H : Heap} {S : Nat → Prop} {cs : List Value} (h : RSrc H S s cs) :
  Gives ((run Tryz.prog E).call 14 [.agg ⟨cs⟩, .string frm, .string to] H) fun o H' => o = .val (.bool b) ∧ Same (fun _ => False) H H' := by
 have zm : zeroT Tryz.prog 101 = some (.map none) := by kernel_rfl
 have zf : zeroT Tryz.prog 62 = some .nilFunc := by kernel_rfl
 obtain ⟨v1, v2, v3, v4, ec, -⟩ := id h
 obtain ⟨K, hK⟩ : ∃ K, K = ((((H.push (.row true 0 1 cs)).push (.row true 0 1 [.string to])).push (.map [])).push (.row true 0 1 [.map (some (H.n + 1 + 1))])).push (.row true 0 1 [.func (.func 50) #[] #[.pointer (some ⟨H.n, 0, none⟩), .pointer (some ⟨H.n + 1 + 1 + 1, 0, none⟩), .pointer (some ⟨H.n + 1, 0, none⟩), .pointer (some ⟨H.n + 1 + 1 + 1 + 1, 0, none⟩)]]) := ⟨_, rfl⟩
 have nK : K.n = H.n + 5 := by rw [hK]; rfl
 have kK : Same (fun _ => False) H K := by rw [hK]; exact ((((Same.push _ _ _).then_push _).then_push _).then_push _).then_push _
 have hW : RW s to cs H.n K [] := by
  refine ⟨?_, ?_, ?_, ?_, ?_, RSrc.move kK (fun i _ hl => ⟨hl, fun h => h⟩) h⟩
  · rw [hK]; simp [Heap.get_push, show ¬ H.n = H.n + 1 + 1 + 1 by omega, show ¬ H.n = H.n + 1 + 1 by omega, show ¬ H.n = H.n + 1 + 1 + 1 + 1 by omega]
  · rw [hK]; simp [Heap.get_push, show ¬ H.n = H.n + 1 + 1 + 1 by omega, show ¬ H.n = H.n + 1 + 1 by omega]
  · rw [hK]; simp [Heap.get_push, kn, show ¬ H.n = H.n + 1 + 1 by omega]
  · rw [hK]; simp [Heap.get_push]
  · rw [hK]; simp [Heap.get_push]
 obtain ⟨o, K2, e2, rfl, hW2, k2⟩ := reach_run hE s to cs H.n hs n [] frm b out' hr K hW
 rw [ec] at *
 simp only [sr5] at *
 rw [c_tReaches hE, callB, bodyOf]
 simp [Tryz.f14, zm, zf]
 rw [← hK]
 simp [e2]
 exact kK.then k2 fun i hi => .inr (by omega)
end
end Go.Vm.Tree
namespace Go.Vm.Parse
open Go Go.Proofs
attribute [local simp] repCells_succ writeAt rd_Fr toList_beq gpe gpn spe gse gsn ne_r0 ne_l0 le_s0 ne_r1 ne_l1 lt_s1 le_s1 ne_r2 ne_l2 lt_s2 le_s2 ne_r3 ne_l3 lt_s3 le_s3 ne_r4 ne_l4 lt_s4 le_s4 ne_r5 ne_l5 lt_s5 le_s5 ne_r6 ne_l6 lt_s6 le_s6 ne_r7 ne_l7 lt_s7 le_s7
theorem no_bran : planOf Tryz.prog (drawN Tryz.f83 0) = none := by decide +kernel
theorem at_bran : ∃ os, lateAt (drawN Tryz.f83 0) = some ⟨8, 6, 95, os⟩ ∧ os.op = .store 95 (.tmp 6) (.tmp 16) := ⟨((drawN Tryz.f83 0)[9]?).getD ⟨none, .move (.tmp 0), 0, "", #[], none⟩, by kernel_rfl, by kernel_rfl⟩
theorem pl_bran : planOf Tryz.prog (lateA (drawN Tryz.f83 0)) = some [(some (0, 1)), (some (0, 1)), (some (0, 1)), (some (0, 1)), none, none, none, none, (some (0, 1))] := by decide +kernel
theorem z_bran : zeroT Tryz.prog 95 = some (.agg ⟨[.int .i64 0, .string ByteArray.empty, nl, nl]⟩) := by kernel_rfl
theorem v_bran (cs : List Value) : varObj Tryz.prog 95 cs = .row true 0 1 cs := by unfold varObj; simp
def bc4 (a : Int) (x : ByteArray) (v w : Value) : List Value := [.int .i64 a, .string x, v, w]
section
variable {E : Hooks} (hE : Plain E) {r lid : Nat} {L : List Tk}
include hE
theorem bran_ok : BranOK E branP r lid L := by
 intro n lv s b s' hx h0 h24 H h
 have hr := h.lt
 have hl := h.lid_lt
 have hsm := h.small
 have aP : At (H.push (.row true 0 1 (bc4 0 ByteArray.empty nl nl))) r lid L s (H.push (.row true 0 1 (bc4 0 ByteArray.empty nl nl))) := ⟨Same.refl _ _, h.same (Same.push _ _ _)⟩
 obtain ⟨HA, eA, kA, hA⟩ := name_run hE aP.rd
 have aA := aP.go kA hA
 have nA := kA.n
 simp at nA
 unfold branP at hx
 simp only [Option.bind_eq_some_iff] at hx
 obtain ⟨⟨a1, s1⟩, hx1, hx2⟩ := hx
 have aB := (aA.push (.row true 0 1 (nameP L s).cells)).push .dead
 obtain ⟨o, HC, eC, v, rfl, kC, hC, gC⟩ := args_run hE h0 h24 hx1 aB.rd
 have aC := aB.go kC hC
 have nC := kC.n
 simp at nC
 obtain ⟨b0, rfl⟩ := repEx.G_slice gC
 have g1 : HC.get (HA.n + 1) = .dead := by
  rw [kC.get _ (by simp) (by omega)]
  exact Heap.get_push_self (HA.push (.row true 0 1 (nameP L s).cells)) .dead
 have g2 : HC.get HA.n = .row true 0 1 (nameP L s).cells := kC.at (by simp) (by simp) (by omega)
 have lC : Loc (H.push (.row true 0 1 (bc4 0 ByteArray.empty nl nl))) r lid L (HA.n + 1) s1 (bc4 (nameP L s).at_ (nameP L s).name (.slice b0 a1.length a1.length) nl) (HC.set (HA.n + 1) (.row true 0 1 (bc4 (nameP L s).at_ (nameP L s).name (.slice b0 a1.length a1.length) nl))) :=
  ⟨aC.set (by simp; omega) (by simp; omega) (by simp; omega) (by omega) _, Heap.get_set_self _ _ (by omega), by show HA.n + 1 < HC.n; omega, by simp; omega, by simp; omega, by simp; omega⟩
 have gX : repEx.G (HC.set (HA.n + 1) (.row true 0 1 (bc4 (nameP L s).at_ (nameP L s).name (.slice b0 a1.length a1.length) nl))) (fun i => HA.n + 1 < i) (.slice b0 a1.length a1.length) a1 :=
  repEx.G_set gC (by omega) (fun j hj => by simp at hj; exact ⟨by omega, by omega⟩) _
 obtain ⟨os, ea, eo⟩ := at_bran
 rw [c_branch hE, callB, bodyOf]
 simp only [Idn.cells, bc4] at eA eC g2 lC gX
 have q1 : HA.n + 1 < HC.n := by omega
 simp [Tryz.f83, eA]
 refine region_late (by exact no_bran) (by exact ea) (by exact pl_bran) (by exact z_bran) ?_
 simp [lateA, blank, eC, g2]
 rw [exLast_go q1 g1]
 simp [eo, q1, v_bran]
 have gK := lC.get
 have tK := lC.lt
 have t0 : H.n < HC.n := by omega
 by_cases c1 : isP L s1 tClaims = true
 · rw [if_pos c1] at hx2
   simp only [Option.map_eq_some_iff] at hx2
   obtain ⟨⟨l2, s2⟩, hx3, hx4⟩ := hx2
   cases hx4
   obtain ⟨HD, eD, lD, kD⟩ := lC.take_yes hE c1
   obtain ⟨HE, b, m, eE, lE, gE, kE⟩ := lD.items hE hx3
   have gKE := lE.get
   have tKE := lE.lt
   have g0 : HE.get H.n = .row true 0 1 (bc4 0 ByteArray.empty nl nl) := lE.at_.same.at (Heap.get_push_self _ _) (by simp) (by omega)
   have t0E := Heap.lt_of_get g0 (by simp)
   simp only [bc4] at g0
   simp only [tClaims] at eD
   obtain ⟨b3, e3⟩ := repItm.G_slice gE
   cases e3
   simp [eD, eE, gKE, tKE, g0, t0E, show ¬ H.n = HA.n + 1 by omega, show ¬ HA.n + 1 = H.n by omega]
   have lF := lE.put (bc4 (nameP L s).at_ (nameP L s).name (.slice b0 a1.length a1.length) (.slice b l2.length l2.length))
   refine ret_rep repBra hr hl lF.at_ ?_ _
   refine ⟨_, _, rfl, repEx.G_move (Same.refl (fun _ => False) _) (fun i hi _ => ⟨by omega, fun h => h⟩) (lE.fld_put (lD.fld (lC.fld gX kD) kE) _), repItm.G_move (Same.refl (fun _ => False) _) (fun i hi _ => ⟨by omega, fun h => h⟩) (lE.fld_put gE _)⟩
 · rw [if_neg c1] at hx2
   cases hx2
   have c1' : isP L s1 tClaims = false := by simpa using c1
   obtain ⟨HD, eD, lD, kD⟩ := lC.take_no hE c1'
   have gKD := lD.get
   have tKD := lD.lt
   have g0 : HD.get H.n = .row true 0 1 (bc4 0 ByteArray.empty nl nl) := lD.at_.same.at (Heap.get_push_self _ _) (by simp) (by omega)
   have t0D := Heap.lt_of_get g0 (by simp)
   simp only [bc4] at g0
   simp only [tClaims] at eD
   simp [eD, gKD, tKD, g0, t0D, show ¬ H.n = HA.n + 1 by omega, show ¬ HA.n + 1 = H.n by omega]
   refine ret_rep repBra hr hl lD.at_ ?_ _
   exact ⟨_, _, rfl, repEx.G_move (Same.refl (fun _ => False) _) (fun i hi _ => ⟨by omega, fun h => h⟩) (lC.fld gX kD), repItm.G_nil _ _⟩
end
end Go.Vm.Parse
namespace Go.Vm.Parse
open Go Go.Proofs
section
variable {E : Hooks} (hE : Plain E)
include hE
theorem parse_any {H : Heap} {v : Value} {src : List UInt8} (hv : isTuple v = false) (hall : AllOK E H v src) (hsm : src.length ≤ 4096) {n : Nat} {res : Src ⊕ (Int × Int)} (hx : parseP branP src n = some res) :
  Gives ((run Tryz.prog E).call 5 [v] H) (RetP H res) :=
 parse_walk0 hE (fun L n lv s b s' h => branP_lt h) (fun r lid L => bran_ok hE) hv hall hsm hx
end
end Go.Vm.Parse
namespace Go.Vm.Tree
open Go Go.Proofs Go.Vm.Parse
attribute [local simp] repCells_succ writeAt rd_Fr toList_beq gpe gpn spe gse gsn
theorem plain0 : Plain noHooks := ⟨fun _ _ _ => rfl⟩
theorem E0_ok (N : Th) (W0 : World) : CallOK Tryz.prog N W0 noHooks.run := noHooks_ok
def reachG (ps : List Prc) (to frm : ByteArray) (b : Bool) : Bool := match reachP ps to 20 [] frm with
 | some (c, _) => b == c
 | none => false
def awG : Src ⊕ (Int × Int) → Src ⊕ (Int × Int) → Bool
 | .inl s, .inl t => (match s.procs with
  | [_, p] => decide (callSs [] p.body = [⟨#[97]⟩])
  | _ => false) && (decide (cntR s = 7) && (reachG s.procs ⟨#[97]⟩ ⟨#[97]⟩ true && (reachG s.procs ⟨#[99]⟩ ⟨#[97]⟩ false && (!sameR s t && allSame sameS s.body t.body))))
 | _, _ => false
def awS (b : UInt8) : List UInt8 := [112, 114, 111, 103, 114, 97, 109, 32, 112, 59, 32, 112, 114, 111, 99, 101, 100, 117, 114, 101, 32, 97, 40, 41, 59, 32, 98, 101, 103, 105, 110, 32, 98, 40, 41, 32, 101, 110, 100, 59, 32, 112, 114, 111, 99, 101, 100, 117, 114, 101, 32, 98, 40, 41, 59, 32, 98, 101, 103, 105, 110, 32, 97, 40, 41, 59, 32, 119, 114, 105, 116, 101, 32, 49, 32, 43, 32, b, 32, 101, 110, 100, 59, 32, 98, 101, 103, 105, 110, 32, 115, 107, 105, 112, 32, 101, 110, 100, 46]
theorem aw_true : ((parseP branP (awS 50) 300).bind fun r => (parseP branP (awS 51) 300).map fun q => awG r q) = some true := by decide +kernel
def evK : List (Nat × Operand) → Option (List (Nat × Value))
 | [] => some []
 | (i, .const v) :: l => match ground v with
  | true => (evK l).map ((i, v) :: ·)
  | false => none
 | _ :: _ => none
theorem evK_evP (t : List Value) : ∀ {ps : List (Nat × Operand)} {l}, evK ps = some l → evP t ps = some l
 | [], l, h => h
 | (i, .const v) :: ps, l, h => by
  simp only [evK] at h
  cases hg : ground v with
  | false => rw [hg] at h; cases h
  | true =>
   rw [hg] at h
   simp only [Option.map_eq_some_iff] at h
   obtain ⟨l', h1, rfl⟩ := h
   simp only [evP, evA, evK_evP t h1, hg]
 | (i, .tmp _) :: _, l, h => by cases h
 | (i, .func _) :: _, l, h => by cases h
theorem bs_run {call : Nat → List Value → Heap → Option (Out × Heap)} {n : Nat} {ps : Array (Nat × Operand)} {t : List Value} {H : Heap} (l : List UInt8) (hn : n ≤ 4096) (h : ((evK ps.toList).bind (fillL (fun i => some (i * 1, 1)) (repCells n [.int .u8 0]))) = some (l.map byteC)) :
  exOp Tryz.prog call (.buildSlice 35 n ps) t H = some (.val (.slice (some ⟨H.n, 0, none⟩) n n), H.push (.row true 0 1 (l.map byteC))) := by
 cases hk : evK ps.toList with
 | none => rw [hk] at h; cases h
 | some q =>
  rw [hk, Option.bind_some] at h
  rw [op_buildSlice, evK_evP t hk, Option.bind_some, buildSlice_eq]
  simp only [Nat.mul_one] at h
  simp [h, val2]
  omega
theorem SrcSz.of {s : Src} {n : Nat} (h : SrcOK s n) (hn : n ≤ 90000) : SrcSz s := by
 have := h.size
 exact ⟨by omega, by omega, by omega, by omega⟩
theorem szs_le {s : Src} (h : SrcSz s) {p0 p : Prc} (hs : s.procs = [p0, p]) : szSs p.body ≤ 90000 := by
 have := h.p
 rw [hs] at this
 simp only [szPs, szP] at this
 omega
structure Duo (H1 K : Heap) (cs : List Value) (c a : Int) : Prop where
 same : Same (fun _ => False) H1 K
 g1 : K.get H1.n = .row true 0 1 cs
 g2 : K.get (H1.n + 1) = .row true 0 1 [.int .i64 c, .int .i64 a]
 n : K.n = H1.n + 2
theorem duo_of (H1 : Heap) (z cs : List Value) (c a : Int) : Duo H1 ((((H1.push (.row true 0 1 z)).push (.row true 0 1 [.int .i64 0, .int .i64 0])).set H1.n (.row true 0 1 cs)).set (H1.n + 1) (.row true 0 1 [.int .i64 c, .int .i64 a])) cs c a :=
 ⟨Same.then_set (Same.then_set ((Same.push _ _ _).then_push _) (by simp; omega) (.inr (by simp)) _) (by simp) (.inr (by simp)) _, by rw [Heap.get_set _ _ _ (by simp), if_neg (by simp)]; exact Heap.get_set_self _ _ (by simp; omega), Heap.get_set_self _ _ (by simp), rfl⟩
theorem proc_two {s : Src} {p0 p : Prc} (hs : s.procs = [p0, p]) {H : Heap} {S : Nat → Prop} {cs : List Value} (h : RSrc H S s cs) (hS : ∀ i, S i → i < H.n) :
  ∃ v1 id tl cs1 v3 v4 w, cs = [.string s.name, v1, .slice (some ⟨id, 0, none⟩) 2 2, v3, v4] ∧ H.get id = .row true tl 5 cs1 ∧ cs1.length = 10 ∧ cs1[9]? = some (.slice w p.body.length p.body.length) ∧ GS H.n H (.slice w p.body.length p.body.length) p.body := by
 obtain ⟨v1, v2, v3, v4, ec, r1, r2, r3, r4⟩ := h
 rw [hs] at r2
 rcases r2 with ⟨_, r2⟩ | ⟨id, tl, cs1, rfl, _, hid, p1, rr⟩
 · cases r2
 have l1 := repPrc.L_len rr
 have hi : 1 < [p0, p].length := by simp
 have rr3 := L_item repPrc rr 1 hi
 have hk0 : repPrc.k = 5 := rfl
 rw [hk0] at p1 l1 rr3
 obtain ⟨w1, w2, w3, ec1, -⟩ := pr_parts rr3
 obtain ⟨w1', w2', w3', ec2, -, -, gb⟩ := rr3
 simp only [List.getElem_cons_succ, List.getElem_cons_zero] at *
 rw [ec1] at ec2
 simp only [pc5, List.cons.injEq, and_true, true_and] at ec2
 obtain ⟨rfl, rfl, rfl⟩ := ec2
 simp only [pc5] at ec1
 have p5 : cs1[9]? = some (.slice w3 p.body.length p.body.length) := by
  have := congrArg (·[4]?) ec1
  simpa [List.getElem?_take, List.getElem?_drop] using this
 exact ⟨v1, id, tl, cs1, v3, v4, w3, ec, p1, by simpa using l1, p5, GS.ofG (fun i hi => hS i hi.1) gb⟩
theorem c_awake22 (args : List Value) (H : Heap) : (run Tryz.prog noHooks).call 4 args H = callB Tryz.prog noHooks Tryz.f4 args H := call_B Tryz.func4 rfl (by decide +kernel) rfl args H
theorem awake22 (H : Heap) : ∃ H', (run Tryz.prog noHooks).call 4 [] H = some (.val (.bool true), H') := by
 suffices key : Gives ((run Tryz.prog noHooks).call 4 [] H) fun o H' => o = .val (.bool true) by
  obtain ⟨o, H', e, rfl⟩ := key
  exact ⟨H', e⟩
 obtain ⟨s, t, hx1, hx2, hg⟩ : ∃ s t, parseP branP (awS 50) 300 = some (.inl s) ∧ parseP branP (awS 51) 300 = some (.inl t) ∧ awG (.inl s) (.inl t) = true := by
  have h := aw_true
  simp only [Option.bind_eq_some_iff, Option.map_eq_some_iff] at h
  obtain ⟨r, h1, q, h2, h3⟩ := h
  cases r with
  | inr _ => simp [awG] at h3
  | inl s => cases q with
   | inr _ => simp [awG] at h3
   | inl t => exact ⟨s, t, h1, h2, h3⟩
 have sz1 := SrcSz.of (parse_ok hx1) (by decide)
 have sz2 := SrcSz.of (parse_ok hx2) (by decide)
 simp only [awG, Bool.and_eq_true, decide_eq_true_eq, Bool.not_eq_true'] at hg
 obtain ⟨hp, hcnt, hr1, hr2, hsame, hbody⟩ := hg
 obtain ⟨p0, p, hps, hcall⟩ : ∃ p0 p, s.procs = [p0, p] ∧ callSs [] p.body = [⟨#[97]⟩] := by
  match hq : s.procs, hp with
  | [p0, p], hp => exact ⟨p0, p, rfl, by simpa using hp⟩
 obtain ⟨o1, hR1⟩ : ∃ o, reachP s.procs ⟨#[97]⟩ 20 [] ⟨#[97]⟩ = some (true, o) := by
  unfold reachG at hr1
  split at hr1
  · rename_i c o e; exact ⟨o, by rw [e]; simp at hr1; simp [← hr1]⟩
  · cases hr1
 obtain ⟨o2, hR2⟩ : ∃ o, reachP s.procs ⟨#[99]⟩ 20 [] ⟨#[97]⟩ = some (false, o) := by
  unfold reachG at hr2
  split at hr2
  · rename_i c o e; exact ⟨o, by rw [e]; simp at hr2; simp [hr2]⟩
  · cases hr2
 have bs : ∀ (K : Heap) b, BS (K.push (.row true 0 1 ((awS b).map byteC))) K.n 0 99 (awS b) := fun K b => ⟨true, 0, 1, _, Heap.get_push_self _ _, by simp [awS], by simp [awS], by rw [List.drop_zero]; exact List.take_of_length_le (by simp)⟩
 have cv : ∀ (K : Heap) b, exConvert Tryz.prog 35 35 (.slice (some ⟨K.n, 0, none⟩) 99 99) (K.push (.row true 0 1 ((awS b).map byteC))) = some (.slice (some ⟨K.n, 0, none⟩) 99 99, K.push (.row true 0 1 ((awS b).map byteC))) := fun K b => by
  simp [exConvert, Heap.get_push]
 have hl : ∀ b, (awS b).length = 99 := fun b => rfl
 have sp : ∀ (S : Nat → Prop) (K : Heap) q cs, RSrc K S q cs → ∃ b1 n1 c1 b2 n2 c2 b3 n3 c3 b4 n4 c4, cs = [.string q.name, .slice b1 n1 c1, .slice b2 n2 c2, .slice b3 n3 c3, .slice b4 n4 c4] := fun S K q cs h => by
  obtain ⟨u1, u2, u3, u4, e, -⟩ := sr_parts h
  exact ⟨_, _, _, _, _, _, _, _, _, _, _, _, e⟩
 obtain ⟨o, Ha, ea, ka, csa, rfl, ra⟩ := parse_any plain0 rfl (AllOK.bs plain0 (bs H 50) (by decide)) (by decide) hx1
 rw [hl] at ea
 obtain ⟨b1, n1, c1, b2, n2, c2, b3, n3, c3, b4, n4, c4, rfl⟩ := sp _ _ _ _ ra
 have D1 := duo_of Ha [.string ByteArray.empty, .slice none 0 0, .slice none 0 0, .slice none 0 0, .slice none 0 0] [.string s.name, .slice b1 n1 c1, .slice b2 n2 c2, .slice b3 n3 c3, .slice b4 n4 c4] 0 0
 generalize hK1 : (((Ha.push (.row true 0 1 [.string ByteArray.empty, .slice none 0 0, .slice none 0 0, .slice none 0 0, .slice none 0 0])).push (.row true 0 1 [.int .i64 0, .int .i64 0])).set Ha.n (.row true 0 1 [.string s.name, .slice b1 n1 c1, .slice b2 n2 c2, .slice b3 n3 c3, .slice b4 n4 c4])).set (Ha.n + 1) (.row true 0 1 [.int .i64 0, .int .i64 0]) = K1 at *
 have rK1 := RSrc.move (S' := fun _ => True) D1.same (fun i _ _ => ⟨trivial, fun h => h⟩) ra
 have kb : Same (fun _ => False) K1 (K1.push (.row true 0 1 ((awS 51).map byteC))) := Same.push _ _ _
 obtain ⟨o, Hb, eb, kb', csb, rfl, rb⟩ := parse_any plain0 rfl (AllOK.bs plain0 (bs K1 51) (by decide)) (by decide) hx2
 rw [hl] at eb
 obtain ⟨b1', n1', c1', b2', n2', c2', b3', n3', c3', b4', n4', c4', rfl⟩ := sp _ _ _ _ rb
 have D2 := duo_of Hb [.string ByteArray.empty, .slice none 0 0, .slice none 0 0, .slice none 0 0, .slice none 0 0] [.string t.name, .slice b1' n1' c1', .slice b2' n2' c2', .slice b3' n3' c3', .slice b4' n4' c4'] 0 0
 have k12 := ((kb.trans kb').trans D2.same)
 generalize hK2 : (((Hb.push (.row true 0 1 [.string ByteArray.empty, .slice none 0 0, .slice none 0 0, .slice none 0 0, .slice none 0 0])).push (.row true 0 1 [.int .i64 0, .int .i64 0])).set Hb.n (.row true 0 1 [.string t.name, .slice b1' n1' c1', .slice b2' n2' c2', .slice b3' n3' c3', .slice b4' n4' c4'])).set (Hb.n + 1) (.row true 0 1 [.int .i64 0, .int .i64 0]) = K2 at *
 have rs := RSrc.move (S' := fun i => i < K2.n) k12 (fun i _ hi => ⟨by have := k12.n; omega, fun h => h⟩) rK1
 have rt := RSrc.move (S' := fun _ => True) D2.same (fun i _ _ => ⟨trivial, fun h => h⟩) rb
 have gs := k12.at D1.g1 (by simp) fun h => h
 have gt := D2.g1
 obtain ⟨u1, id, tl, cs1, u3, u4, w, ec, p1, l1, p9, gp⟩ := proc_two hps rs (fun i h => h)
 simp only [List.cons.injEq, true_and, and_true] at ec
 obtain ⟨rfl, ec, rfl, rfl⟩ := ec
 cases ec
 obtain ⟨o, K3, e3, bc, rfl, k3, gc⟩ := tCalls plain0 (szs_le sz1 hps) gp
 rw [hcall] at e3 gc
 have gs3 := k3.at gs (by simp) fun h => h
 have gt3 := k3.at gt (by simp) fun h => h
 have go : ∀ {X Y : Heap}, Same (fun _ => False) X Y → ∀ {q : Src} {cs : List Value}, RSrc X (fun _ => True) q cs → RSrc Y (fun _ => True) q cs := fun k q cs h => RSrc.move k (fun i _ _ => ⟨trivial, fun h => h⟩) h
 have rs3 : RSrc K3 (fun _ => True) s _ := RSrc.move k3 (fun i _ _ => ⟨trivial, fun h => h⟩) rs
 have rt3 := go k3 rt
 obtain ⟨o, K4, e4, rfl, k4⟩ := pSame plain0 sz1 sz1 rs3 rs3
 rw [sameR_refl] at e4
 have gs4 := k4.at gs3 (by simp) fun h => h
 have gt4 := k4.at gt3 (by simp) fun h => h
 obtain ⟨o, K5, e5, rfl, k5⟩ := pSame plain0 sz1 sz2 (go k4 rs3) (go k4 rt3)
 rw [hsame] at e5
 have gs5 := k5.at gs4 (by simp) fun h => h
 have gt5 := k5.at gt4 (by simp) fun h => h
 obtain ⟨o, K6, e6, rfl, k6⟩ := pCount plain0 sz1 (go k5 (go k4 rs3))
 rw [hcnt] at e6
 have gs6 := k6.at gs5 (by simp) fun h => h
 have gt6 := k6.at gt5 (by simp) fun h => h
 rcases gc with ⟨_, gc⟩ | ⟨idc, tlc, csc, hbc, _, _, pc, rc⟩
 · cases gc
 simp only [Value.slice.injEq] at hbc
 obtain ⟨rfl, -⟩ := hbc
 obtain ⟨cc1, cc2, rfl, rc1, rc2⟩ := rc
 have rc1' : cc1 = [.string ⟨#[97]⟩] := rc1
 have rc2' : cc2 = [] := rc2
 subst rc1' rc2'
 have hk1 : repNm.k = 1 := rfl
 rw [hk1] at pc
 have pc6 := ((k4.trans k5).trans k6).at pc (by simp) fun h => h
 obtain ⟨o, K7, e7, rfl, k7⟩ := tReaches plain0 sz1 hR1 (go k6 (go k5 (go k4 rs3)))
 have gs7 := k7.at gs6 (by simp) fun h => h
 have gt7 := k7.at gt6 (by simp) fun h => h
 obtain ⟨o, K8, e8, rfl, k8⟩ := tReaches plain0 sz1 hR2 (go k7 (go k6 (go k5 (go k4 rs3))))
 have gs8 := k8.at gs7 (by simp) fun h => h
 have gt8 := k8.at gt7 (by simp) fun h => h
 obtain ⟨x1, x2, x3, x4, es8, -, -, -, G1⟩ := sr_parts (go k8 (go k7 (go k6 (go k5 (go k4 rs3)))))
 obtain ⟨y1, y2, y3, y4, et8, -, -, -, G2⟩ := sr_parts (go k8 (go k7 (go k6 (go k5 (go k4 rt3)))))
 simp only [sr5, List.cons.injEq, true_and, and_true, Value.slice.injEq] at es8 et8
 obtain ⟨-, -, -, rfl, rfl, rfl⟩ := es8
 obtain ⟨-, -, -, rfl, rfl, rfl⟩ := et8
 obtain ⟨o, K9, e9, rfl, k9⟩ := pStmts plain0 _ s.body (Nat.lt_succ_self _) sz1.b t.body sz2.b K8 _ _ G1 G2
 rw [hbody] at e9
 obtain ⟨o, KA, eA, rfl, kA⟩ := pExpr plain0 _ (.mk 1 0 0 0 ByteArray.empty []) (Nat.lt_succ_self _) (by decide) (.mk 2 0 0 0 ByteArray.empty []) (by decide) K9 [.int .i64 1, .int .i64 0, .int .i64 0, .int .i64 0, .string ByteArray.empty, .slice none 0 0] [.int .i64 2, .int .i64 0, .int .i64 0, .int .i64 0, .string ByteArray.empty, .slice none 0 0] (by simp [RE]) (by simp [RE])
 have hne : sameE (.mk 1 0 0 0 ByteArray.empty []) (.mk 2 0 0 0 ByteArray.empty []) = false := by simp [sameE]
 rw [hne] at eA
 rw [c_awake22, callB, bodyOf]
 simp [-op_buildSlice, Tryz.f4]
 rw [bs_run (awS 50) (by decide) (by kernel_rfl)]
 simp [-op_buildSlice, cv, ea]
 rw [hK1, bs_run (awS 51) (by decide) (by kernel_rfl)]
 simp [-op_buildSlice, cv, eb]
 rw [hK2]
 have h9 : 9 < cs1.length := by omega
 rw [List.getElem?_eq_getElem h9] at p9
 simp only [Option.some.injEq] at p9
 simp [gs, p1, l1, p9, e3]
 simp [gs3, gt3, e4, gs4, gt4, e5, gs5, gt5, e6, gs6, gt6, pc6, e7, gs7, gt7, e8, gs8, gt8, e9, eA]
theorem pl_rcStmts : planOf Tryz.prog (drawN Tryz.f48 0) = some [some (0, 2), none, none, none, none, none, none, some (1, 1), some (0, 1), some (0, 1), some (0, 1), some (0, 1), some (0, 1), none, none, none] := by decide +kernel
section
variable {E : Hooks} (hE : Plain E)
include hE
theorem c_rcExpr (args : List Value) (H : Heap) : (run Tryz.prog E).call 78 args H = callB Tryz.prog E Tryz.f78 args H := call_B Tryz.func78 rfl (by decide +kernel) (hE.no _ rfl rfl) args H
theorem c_rcStmts (args : List Value) (H : Heap) : (run Tryz.prog E).call 48 args H = callB Tryz.prog E Tryz.f48 args H := call_B Tryz.func48 rfl (by decide +kernel) (hE.no _ rfl rfl) args H
theorem c_rCount (args : List Value) (H : Heap) : (run Tryz.prog E).call 12 args H = callB Tryz.prog E Tryz.f12 args H := call_B Tryz.func12 rfl (by decide +kernel) (hE.no _ rfl rfl) args H
theorem rcExpr : ∀ n x, szX x < n → szX x ≤ 90000 → ∀ H c1, RE H T0 x c1 → Gives ((run Tryz.prog E).call 78 [.agg ⟨c1⟩] H) fun o H' => o = .val (.int .i64 (cntE x)) ∧ Same (fun _ => False) H H' := by
 intro n
 induction n with
 | zero => intro x h; omega
 | succ n ih =>
  intro x hn hx H c1 h1
  cases x with
  | mk k1 a1 m1 o1 x1 s1 =>
  obtain ⟨b1, rfl, G1⟩ := ex_parts h1
  simp only [szX] at hn hx
  have ls := szXs_len s1
  have lc := cntEs_le s1
  rw [cntEs_eq] at lc
  have kp : Same (fun _ => False) H (H.push (.row true 0 1 [.int .i64 k1, .int .i64 a1, .int .i64 m1, .int .i64 o1, .string x1, .slice b1 s1.length s1.length])) := Same.push _ _ _
  have z1 : (H.push (.row true 0 1 [.int .i64 k1, .int .i64 a1, .int .i64 m1, .int .i64 o1, .string x1, .slice b1 s1.length s1.length])).get H.n = .row true 0 1 [.int .i64 k1, .int .i64 a1, .int .i64 m1, .int .i64 o1, .string x1, .slice b1 s1.length s1.length] := Heap.get_push_self _ _
  rw [c_rcExpr hE, callB, bodyOf]
  simp [Tryz.f78]
  generalize hHb : H.push (.row true 0 1 [.int .i64 k1, .int .i64 a1, .int .i64 m1, .int .i64 o1, .string x1, .slice b1 s1.length s1.length]) = Hb at *
  refine loop_mid (fun t K => rd t 3 = .int .i64 (1 + sum cntE s1 : Nat) ∧ Same (fun _ => False) Hb K) (fun m t K => ∃ i : Nat, i + m = s1.length ∧ rd t 4 = .int .i64 i ∧ rd t 3 = .int .i64 (1 + sum cntE (s1.take i) : Nat) ∧ Same (fun _ => False) Hb K) s1.length ?_ ?_ ?_
  · exact ⟨0, by omega, by simp, by simp [sum], Same.refl _ _⟩
  · rintro m t K hk ⟨i, hm, g4, g3, kS⟩
    have ht : t.length = 21 := hk.1.trans (by simp [len_Bs])
    have hh := hk.all [1] (by decide +kernel)
    simp at hh
    clear hk
    have z1e := kS.at z1 (by simp) fun h => h
    rcases Nat.lt_or_ge i s1.length with hi | hi
    · have G1' := (G1.keep kp).keep kS
      obtain ⟨id1, tl1, cs1, rfl, -, -, p1, l1, r1⟩ := G1'.at hi
      have hm1 := List.getElem_mem hi
      have st := sum_take cntE s1 i hi
      have sl := sum_take_le cntE s1 (i + 1)
      obtain ⟨o, K', e3, rfl, k3⟩ := ih s1[i] (by have := sz_mem hm1; omega) (by have := sz_mem hm1; omega) K _ r1
      have hk0 : repEx.k = 6 := rfl
      rw [hk0] at p1 l1 e3
      have hw := wrap64 ((i : Int) + 1) (by omega) (by omega)
      have hw2 := wrap64 ((1 + sum cntE (s1.take i) : Nat) + (cntE s1[i] : Int)) (by omega) (by omega)
      simp only [Int.natCast_add, Int.natCast_one, Int.ofNat_one] at hw2 g3
      simp [ht, hh, g4, g3, z1e, hi, p1, l1, show i * 6 + 6 ≤ s1.length * 6 by omega, e3, hw, hw2]
      exact ⟨m - 1, by omega, i + 1, by omega, by simp [ht], by simp [ht, st]; omega, kS.trans k3⟩
    · have e : i = s1.length := by omega
      rw [e, sum_all] at g3
      simp [ht, hh, g4, g3, z1e, show ¬ i < s1.length by omega]
      exact kS
  · rintro t K hk ⟨g3, kS⟩
    have ht : t.length = 21 := hk.1.trans (by simp [len_Bs])
    simp [ht, g3, cntE, cntEs_eq]
    exact kp.trans kS
def RcOK (E : Hooks) (a : List Stm) : Prop := ∀ H v, GT repStm H v a → Gives ((run Tryz.prog E).call 48 [v] H) fun o H' => o = .val (.int .i64 (sum cntS a)) ∧ Same (fun _ => False) H H'
theorem rcStmts_step (n : Nat) (ih : ∀ a, szSs a < n → szSs a ≤ 90000 → RcOK E a) : ∀ a, szSs a < n + 1 → szSs a ≤ 90000 → RcOK E a := by
 intro a hn ha H v h1
 have la := szSs_len a
 have lc := cntSs_le a
 rw [cntSs_eq] at lc
 obtain ⟨b1, rfl⟩ := h1.slice
 rw [c_rcStmts hE, callB, bodyOf]
 simp [Tryz.f48]
 refine loop_mid (fun t K => rd t 3 = .int .i64 (sum cntS a) ∧ Same (fun _ => False) H K) (fun m t K => ∃ i : Nat, i + m = a.length ∧ rd t 4 = .int .i64 i ∧ rd t 3 = .int .i64 ((a.length : Int) + (sum cntS (a.take i) : Int) - i) ∧ Same (fun _ => False) H K) a.length ?_ ?_ ?_
 · exact ⟨0, by omega, by simp, by simp [sum], Same.refl _ _⟩
 · rintro m t K hk ⟨i, hm, g4, g3, kS⟩
   have ht : t.length = 92 := hk.1.trans (by simp [len_Bs])
   have hh := hk.all [0] (by decide +kernel)
   simp at hh
   clear hk
   rcases Nat.lt_or_ge i a.length with hi | hi
   · have G1' := h1.keep kS
     obtain ⟨id1, tl1, cs1, rfl, -, -, p1, l1, r1⟩ := G1'.at hi
     have hm1 := List.getElem_mem hi
     have st := sum_take cntS a i hi
     have sl := sum_take_le cntS a (i + 1)
     have sz := szs_mem hm1
     generalize a[i] = X at *
     have hk0 : repStm.k = 8 := rfl
     rw [hk0] at p1 l1 r1
     obtain ⟨k1, a1, x1, e1, bd1, el1, br1, it1, hx⟩ : ∃ k1 a1 x1 e1 bd1 el1 br1 it1, X = Stm.mk k1 a1 x1 e1 bd1 el1 br1 it1 := by cases X; exact ⟨_, _, _, _, _, _, _, _, rfl⟩
     subst hx
     obtain ⟨w1, w2, w3, w4, w5, ec, G2, G3, G4, G5, G6⟩ := st_parts r1
     have A3 := cell_at ec (j := 3) rfl
     have A4 := cell_at ec (j := 4) rfl
     have A5 := cell_at ec (j := 5) rfl
     have A6 := cell_at ec (j := 6) rfl
     simp only [cntS, cntSs_eq] at st
     simp only [szS] at sz
     have lx := szXs_len e1; have lb := szBs_len br1
     have cE := cntEs_le e1; have cB := cntSs_le bd1; have cL := cntSs_le el1; have cR := cntBs_le br1
     rw [cntEs_eq] at cE
     rw [cntSs_eq] at cB cL
     generalize hN0 : (a.length : Int) + (sum cntS (a.take i) : Int) - i = N0 at *
     have hw := wrap64 ((i : Int) + 1) (by omega) (by omega)
     simp [ht, hh, g4, g3, hi]
     refine loop_mid (fun t K' => rd t 3 = .int .i64 (N0 + (sum cntE e1 : Int)) ∧ Same (fun _ => False) K K') (fun m t K' => ∃ j : Nat, j + m = e1.length ∧ rd t 5 = .int .i64 j ∧ rd t 3 = .int .i64 (N0 + (sum cntE (e1.take j) : Int)) ∧ Same (fun _ => False) K K') e1.length ?_ ?_ ?_
     · exact ⟨0, by omega, by simp [ht], by simp [ht, sum, g3], Same.refl _ _⟩
     · rintro m2 t2 K2 hk2 ⟨j, hm2, n5, n3, kD⟩
       have ht2 : t2.length = 92 := hk2.1.trans (by simp [ht])
       have hh2 := hk2.all [0, 4] (by decide +kernel)
       simp [ht, hh, g4] at hh2
       obtain ⟨n0, n4⟩ := hh2
       clear hk2
       have p1e := kD.at p1 (by simp) fun h => h
       rcases Nat.lt_or_ge j e1.length with hj | hj
       · have G2' := G2.keep kD
         obtain ⟨id2, tl2, cs2, rfl, -, -, p2, l2, r2⟩ := G2'.at hj
         have hm3 := List.getElem_mem hj
         have st2 := sum_take cntE e1 j hj
         have sl2 := sum_take_le cntE e1 (j + 1)
         obtain ⟨o, K', e3, rfl, k3⟩ := rcExpr hE _ e1[j] (Nat.lt_succ_self _) (by have := sz_mem hm3; omega) K2 _ r2
         have hk1 : repEx.k = 6 := rfl
         rw [hk1] at p2 l2 e3
         have hwj := wrap64 ((j : Int) + 1) (by omega) (by omega)
         have hw2 := wrap64 (N0 + (sum cntE (e1.take j) : Int) + (cntE e1[j] : Int)) (by omega) (by omega)
         simp [ht2, n0, n4, n5, n3, hi, p1e, l1, A3, hj, p2, l2, show j * 6 + 6 ≤ e1.length * 6 by omega, e3, hwj, hw2]
         exact ⟨m2 - 1, by omega, j + 1, by omega, by simp [ht2], by simp [ht2, st2]; omega, kD.trans k3⟩
       · have e : j = e1.length := by omega
         rw [e, sum_all] at n3
         simp [ht2, n0, n4, n5, n3, hi, p1e, l1, A3, show ¬ j < e1.length by omega]
         exact kD
     · rintro t2 K2 hk2 ⟨n3, kD⟩
       have ht2 : t2.length = 92 := hk2.1.trans (by simp [ht])
       have hh2 := hk2.all [0, 4] (by decide +kernel)
       simp [ht, hh, g4] at hh2
       obtain ⟨n0, n4⟩ := hh2
       clear hk2
       generalize hN1 : N0 + (sum cntE e1 : Int) = N1 at *
       simp [ht2, n0, n4, n3]
       refine loop_mid (fun t K' => rd t 3 = .int .i64 (N1 + (sum cntB br1 : Int)) ∧ Same (fun _ => False) K2 K') (fun m t K' => ∃ j : Nat, j + m = br1.length ∧ rd t 6 = .int .i64 j ∧ rd t 3 = .int .i64 (N1 + (sum cntB (br1.take j) : Int)) ∧ Same (fun _ => False) K2 K') br1.length ?_ ?_ ?_
       · exact ⟨0, by omega, by simp [ht2], by simp [ht2, sum, n3], Same.refl _ _⟩
       · rintro m3 t3 K3 hk3 ⟨j, hm3, o6, o3, kF⟩
         have ht3 : t3.length = 92 := hk3.1.trans (by simp [ht2])
         have hh3 := hk3.all [0, 4] (by decide +kernel)
         simp [ht2, n0, n4] at hh3
         obtain ⟨o0, o4⟩ := hh3
         clear hk3
         have p1e := kF.at (kD.at p1 (by simp) fun h => h) (by simp) fun h => h
         rcases Nat.lt_or_ge j br1.length with hj | hj
         · have G5' := (G5.keep kD).keep kF
           obtain ⟨id2, tl2, cs2, rfl, -, -, p2, l2, r2⟩ := G5'.at hj
           have hm4 := szb_mem (List.getElem_mem hj)
           have st2 := sum_take cntB br1 j hj
           have sl2 := sum_take_le cntB br1 (j + 1)
           generalize br1[j] = Y at *
           have hk1 : repBra.k = 4 := rfl
           rw [hk1] at p2 l2 r2
           obtain ⟨f1, f2, ef, G7, G8⟩ := br_parts r2
           have B2 := cell_at ef (j := 2) rfl
           simp only [szB] at hm4
           simp only [cntB] at st2
           have ly := szXs_len Y.args
           have cY := cntEs_le Y.args
           rw [cntEs_eq] at cY
           have hwj := wrap64 ((j : Int) + 1) (by omega) (by omega)
           generalize hN2 : N1 + (sum cntB (br1.take j) : Int) = N2 at *
           simp [ht3, o0, o4, o6, o3, hi, p1e, l1, A6, hj]
           refine loop_wp (fun m t K' => ∃ l : Nat, l + m = Y.args.length ∧ rd t 7 = .int .i64 l ∧ rd t 3 = .int .i64 (N2 + (sum cntE (Y.args.take l) : Int)) ∧ Same (fun _ => False) K3 K') Y.args.length ?_ ?_
           · exact ⟨0, by omega, by simp [ht3], by simp [ht3, sum, o3], Same.refl _ _⟩
           rintro m4 t4 K4 hk4 ⟨l, hm5, q7, q3, kG⟩
           have ht4 : t4.length = 92 := hk4.1.trans (by simp [ht3])
           have hh4 := hk4.all [0, 4, 6] (by decide +kernel)
           simp [ht3, o0, o4, o6] at hh4
           obtain ⟨q0, q4, q6⟩ := hh4
           clear hk4
           have p1f := kG.at p1e (by simp) fun h => h
           have p2f := kG.at p2 (by simp) fun h => h
           rcases Nat.lt_or_ge l Y.args.length with hl | hl
           · have G7' := G7.keep kG
             obtain ⟨id5, tl5, cs5, rfl, -, -, p5, l5, r5⟩ := G7'.at hl
             have hm6 := List.getElem_mem hl
             have st5 := sum_take cntE Y.args l hl
             have sl5 := sum_take_le cntE Y.args (l + 1)
             obtain ⟨o, K', e5, rfl, k5⟩ := rcExpr hE _ Y.args[l] (Nat.lt_succ_self _) (by have := sz_mem hm6; omega) K4 _ r5
             have hk5 : repEx.k = 6 := rfl
             rw [hk5] at p5 l5 e5
             have hwl := wrap64 ((l : Int) + 1) (by omega) (by omega)
             have hw5 := wrap64 (N2 + (sum cntE (Y.args.take l) : Int) + (cntE Y.args[l] : Int)) (by omega) (by omega)
             simp [ht4, q0, q4, q6, q7, q3, hi, p1f, l1, A6, hj, p2f, l2, B2, hl, p5, l5, show l * 6 + 6 ≤ Y.args.length * 6 by omega, e5, hwl, hw5]
             exact ⟨m4 - 1, by omega, l + 1, by omega, by simp [ht4], by simp [ht4, st5]; omega, kG.trans k5⟩
           · have e : l = Y.args.length := by omega
             rw [e, sum_all] at q3
             simp [ht4, q0, q4, q6, q7, q3, hi, p1f, l1, A6, hj, p2f, l2, B2, show ¬ l < Y.args.length by omega, hwj]
             exact ⟨m3 - 1, by omega, j + 1, by omega, by simp [ht4], by simp [ht4, q3, st2]; omega, kF.trans kG⟩
         · have e : j = br1.length := by omega
           rw [e, sum_all] at o3
           simp [ht3, o0, o4, o6, o3, hi, p1e, l1, A6, show ¬ j < br1.length by omega]
           exact kF
       · rintro t3 K3 hk3 ⟨o3, kF⟩
         have ht3 : t3.length = 92 := hk3.1.trans (by simp [ht2])
         have hh3 := hk3.all [0, 4] (by decide +kernel)
         simp [ht2, n0, n4] at hh3
         obtain ⟨o0, o4⟩ := hh3
         clear hk3
         generalize hN3 : N1 + (sum cntB br1 : Int) = N3 at *
         have p1e := kF.at (kD.at p1 (by simp) fun h => h) (by simp) fun h => h
         obtain ⟨o, Ka, ea, rfl, ka⟩ := ih bd1 (by omega) (by omega) K3 _ ((G3.keep kD).keep kF)
         have p1a := ka.at p1e (by simp) fun h => h
         obtain ⟨o, Kb, eb, rfl, kb⟩ := ih el1 (by omega) (by omega) Ka _ (((G4.keep kD).keep kF).keep ka)
         have x1 := wrap64 (N3 + (sum cntS bd1 : Int)) (by omega) (by omega)
         have x2 := wrap64 (N3 + (sum cntS bd1 : Int) + (sum cntS el1 : Int)) (by omega) (by omega)
         refine region_plan (by exact pl_rcStmts) ?_
         simp [ht3, o0, o4, o3, hi, p1e, l1, A4, A5, ea, p1a, eb, x1, x2, hw]
         exact ⟨m - 1, by omega, i + 1, by omega, by simp [ht3], by simp [ht3, st]; omega, (((kS.trans kD).trans kF).trans ka).trans kb⟩
   · have e : i = a.length := by omega
     rw [e, sum_all] at g3
     simp [ht, hh, g4, g3, show ¬ i < a.length by omega]
     exact ⟨by omega, kS⟩
 · rintro t K hk ⟨g3, kS⟩
   have ht : t.length = 92 := hk.1.trans (by simp [len_Bs])
   simp [ht, g3]
   exact kS
theorem rcStmts : ∀ n a, szSs a < n → szSs a ≤ 90000 → RcOK E a := by
 intro n
 induction n with
 | zero => intro a h; omega
 | succ n ih => exact rcStmts_step hE n ih
theorem rCount {x : Src} (h1 : SrcSz x) {H : Heap} {S1 : Nat → Prop} {c1 : List Value} (r1 : RSrc H S1 x c1) :
  Gives ((run Tryz.prog E).call 12 [.agg ⟨c1⟩] H) fun o H' => o = .val (.int .i64 (cntR x)) ∧ Same (fun _ => False) H H' := by
 obtain ⟨u1, u2, u3, u4, rfl, G1, G2, G3, G4⟩ := sr_parts r1
 have lp1 := szPs_len x.procs
 have q1 := h1.d; have q2 := h1.p; have q3 := h1.c; have q4 := h1.b
 have c2 := cntSs_le x.body; have c3 := cntPs_le x.procs
 rw [cntSs_eq] at c2
 simp only [sr5]
 have kp : Same (fun _ => False) H (H.push (.row true 0 1 [.string x.name, .slice u1 x.decls.length x.decls.length, .slice u2 x.procs.length x.procs.length, .slice u3 x.claims.length x.claims.length, .slice u4 x.body.length x.body.length])) := Same.push _ _ _
 have z1 : (H.push (.row true 0 1 [.string x.name, .slice u1 x.decls.length x.decls.length, .slice u2 x.procs.length x.procs.length, .slice u3 x.claims.length x.claims.length, .slice u4 x.body.length x.body.length])).get H.n = _ := Heap.get_push_self _ _
 obtain ⟨o, Ka, ea, rfl, ka⟩ := rcStmts hE _ x.body (Nat.lt_succ_self _) (by omega) _ _ (G4.keep kp)
 have z1a := ka.at z1 (by simp) fun h => h
 rw [c_rCount hE, callB, bodyOf]
 simp [Tryz.f12, ea]
 refine loop_mid (fun t K => rd t 3 = .int .i64 (cntR x) ∧ Same (fun _ => False) Ka K) (fun m t K => ∃ i : Nat, i + m = x.procs.length ∧ rd t 4 = .int .i64 i ∧ rd t 3 = .int .i64 ((sum cntS x.body : Int) + (sum cntP (x.procs.take i) : Int)) ∧ Same (fun _ => False) Ka K) x.procs.length ?_ ?_ ?_
 · exact ⟨0, by omega, by simp, by simp [sum], Same.refl _ _⟩
 · rintro m t K hk ⟨i, hm, g4, g3, kS⟩
   have ht : t.length = 25 := hk.1.trans (by simp [len_Bs])
   have hh := hk.all [1] (by decide +kernel)
   simp at hh
   clear hk
   have z1e := kS.at z1a (by simp) fun h => h
   rcases Nat.lt_or_ge i x.procs.length with hi | hi
   · have G2' := ((G2.keep kp).keep ka).keep kS
     obtain ⟨id1, tl1, cs1, rfl, -, -, p1, l1, r1⟩ := G2'.at hi
     have hm1 := szPs_mem (List.getElem_mem hi)
     have st := sum_take cntP x.procs i hi
     have sl := sum_take_le cntP x.procs (i + 1)
     generalize x.procs[i] = X at *
     have hk0 : repPrc.k = 5 := rfl
     rw [hk0] at p1 l1 r1
     obtain ⟨w1, w2, w3, ec, G5, G6, G7⟩ := pr_parts r1
     simp only [pc5] at ec
     have A4 := cell_at ec (j := 4) rfl
     simp only [szP] at hm1
     simp only [cntP] at st
     obtain ⟨o, K', e3, rfl, k3⟩ := rcStmts hE _ X.body (Nat.lt_succ_self _) (by omega) K _ G7
     have hw := wrap64 ((i : Int) + 1) (by omega) (by omega)
     have hw2 := wrap64 ((sum cntS x.body : Int) + (sum cntP (x.procs.take i) : Int) + (sum cntS X.body : Int)) (by omega) (by omega)
     simp [ht, hh, g4, g3, z1e, hi, p1, l1, A4, e3, hw, hw2]
     exact ⟨m - 1, by omega, i + 1, by omega, by simp [ht], by simp [ht, st]; omega, kS.trans k3⟩
   · have e : i = x.procs.length := by omega
     rw [e, sum_all] at g3
     simp [ht, hh, g4, g3, z1e, show ¬ i < x.procs.length by omega, cntR]
     exact kS
 · rintro t K hk ⟨g3, kS⟩
   have ht : t.length = 25 := hk.1.trans (by simp [len_Bs])
   simp [ht, g3]
   exact (kp.trans ka).trans kS
end
end Go.Vm.Tree
namespace Go.Vm.Parse
open Go Go.Proofs
theorem bin_cat2 (x y : Operand) (a b : ByteArray) (h : a.size + b.size ≤ 100000) : exBin Tryz.prog .add 9 x y (.string a) (.string b) = some (.string (a ++ b)) := by
 have e : Op.stringOp .add a b = pure (.string (a ++ b)) := by
  show (if ((a.size + b.size : Nat) : Int) > IntKind.i64.max then _ else _) = _
  rw [if_neg (by have : IntKind.i64.max = 9223372036854775807 := rfl; omega)]
 simp only [exBin, ground_string, Bool.and_self]
 rw [pureRun_bind _ (eqGuard .add 9 x y (.string a) (.string b)) () rfl]
 show ifGround (pureRun Tryz.prog (Op.stringOp .add a b)) = _
 rw [e]
 rfl
end Go.Vm.Parse
namespace Go.Vm.Make
open Go Go.Proofs Go.Vm.Parse
attribute [local simp] repCells_succ writeAt rd_Fr toList_beq gpe gpn spe gse gsn ne_r0 ne_l0 le_s0 ne_r1 ne_l1 lt_s1 le_s1 ne_r2 ne_l2 lt_s2 le_s2 ne_r3 ne_l3 lt_s3 le_s3
def OutS (H : Heap) (S : Nat → Prop) (v : Value) (out : List UInt8) : Prop :=
 (v = .slice none 0 0 ∧ out = []) ∨ ∃ id tl, v = .slice (some ⟨id, 0, none⟩) out.length out.length ∧ tl ≤ 1 ∧ S id ∧ H.get id = .row true tl 1 (out.map byteC)
theorem OutS.slice {H : Heap} {S : Nat → Prop} {v : Value} {out : List UInt8} (h : OutS H S v out) : ∃ b, v = .slice b out.length out.length := by
 rcases h with ⟨rfl, rfl⟩ | ⟨id, tl, rfl, _⟩
 · exact ⟨none, rfl⟩
 · exact ⟨_, rfl⟩
theorem OutS.move {H H' : Heap} {X S S' : Nat → Prop} {v : Value} {out : List UInt8} (h : OutS H S v out) (k : Same X H H') (hs : ∀ i, S i → i < H.n → S' i ∧ ¬ X i) : OutS H' S' v out := by
 refine h.imp id ?_
 rintro ⟨id, tl, h1, h2, h3, h4⟩
 have := hs id h3 (Heap.lt_of_get h4 (by simp))
 exact ⟨id, tl, h1, h2, this.1, k.at h4 (by simp) this.2⟩
theorem out_app {H : Heap} {S : Nat → Prop} {v : Value} {out : List UInt8} (h : OutS H S v out) (s : ByteArray) (hl : out.length + s.size ≤ 1000000000) :
  ∃ b' H', exAppend Tryz.prog [35, 9] v (.string s) H = some (.slice b' (out.length + s.size) (out.length + s.size), H') ∧ OutS H' (fun i => S i ∨ H.n ≤ i) (.slice b' (out.length + s.size) (out.length + s.size)) (out ++ s.data.toList) ∧ Same S H H' := by
 obtain ⟨⟨l⟩⟩ := s
 have sz : (⟨⟨l⟩⟩ : ByteArray).size = l.length := rfl
 have e0 : (⟨⟨l⟩⟩ : ByteArray).data.toList = l := rfl
 rw [sz] at hl ⊢
 rw [e0]
 have hc : cellsOf H 1 l.length (.string ⟨⟨l⟩⟩) = some (l.map byteC) := by simp [cellsOf, sz, byteC]
 by_cases h0 : l = []
 · subst h0
   simp only [List.length_nil, List.map_nil] at hc
   rcases h with ⟨rfl, rfl⟩ | ⟨id, tl, rfl, h2, h3, h4⟩
   · refine ⟨none, H, ?_, .inl ⟨rfl, rfl⟩, Same.refl _ _⟩
     simp [exAppend, exAppendRow, sz, hc]
   · refine ⟨some ⟨id, 0, none⟩, H, ?_, .inr ⟨id, tl, by simp, h2, .inl h3, by simpa using h4⟩, Same.refl _ _⟩
     simp only [List.length_nil] at hl
     simp [exAppend, exAppendRow, sz, hc, show (out.length + 200) ≤ 140737488355328 by omega, show out.length ≤ 140737488355328 by omega, show out.length ≤ 140737488355128 by omega]
 · have hn : ¬ l.length = 0 := fun h => h0 (List.length_eq_zero_iff.1 h)
   rcases h with ⟨rfl, rfl⟩ | ⟨id, tl, rfl, h2, h3, h4⟩
   · simp only [List.length_nil, Nat.zero_add] at hl
     refine ⟨some ⟨H.n, 0, none⟩, H.push (.row true 1 1 (l.map byteC)), ?_, .inr ⟨H.n, 1, by simp, Nat.le_refl _, .inr (Nat.le_refl _), by simp [Heap.get_push]⟩, Same.push _ _ _⟩
     simp [exAppend, exAppendRow, sz, hc, h0, hn, show l.length + 200 ≤ 140737488355328 by omega, show l.length ≤ 140737488355328 by omega, show l.length ≤ 140737488355128 by omega]
   · have hid := Heap.lt_of_get h4 (by simp)
     have f1 : (out.length + l.length + 200) ≤ 140737488355328 := by omega
     have f2 : out.length + l.length ≤ 140737488355328 := by omega
     have f3 : ¬ out.length + l.length ≤ out.length := by omega
     have f4 : out.length + l.length ≤ 140737488355128 := by omega
     have f5 : (out.map byteC).take out.length = out.map byteC := List.take_of_length_le (by simp)
     rcases (show tl = 0 ∨ tl = 1 by omega) with rfl | rfl
     · refine ⟨some ⟨H.n, 0, none⟩, H.push (.row true 1 1 (out.map byteC ++ l.map byteC)), ?_, .inr ⟨H.n, 1, by simp, Nat.le_refl _, .inr (Nat.le_refl _), by simp [Heap.get_push]⟩, Same.push _ _ _⟩
       simp [exAppend, exAppendRow, sz, hc, h4, h0, hn, f1, f2, f3, f4, f5]
     · refine ⟨some ⟨H.n, 0, none⟩, (H.set id .dead).push (.row true 1 1 (out.map byteC ++ l.map byteC)), ?_, .inr ⟨H.n, 1, by simp, Nat.le_refl _, .inr (Nat.le_refl _), by simp [Heap.get_push]⟩, (Same.set H hid h3 _).then_push _⟩
       simp [exAppend, exAppendRow, sz, hc, h4, h0, hn, f1, f2, f3, f4, f5]
structure MK (H0 H : Heap) (mid : Nat) (nv : Value) (N : List Int) (lo hi : Nat) (p : Int) (inn : ByteArray) (a : Nat) (left : Int) (ov : Value) (out : List UInt8) : Prop where
 kp : Same (fun i => H0.n ≤ i) H0 H
 hm : H0.n ≤ mid
 obj : H.get mid = .row true 0 1 [nv, .int .i64 a, ov, .int .i64 p, .string inn, .int .i64 left]
 ha : a ≤ N.length
 go : OutS H (fun i => H0.n ≤ i ∧ i ≠ mid) ov out
 lo : lo ≤ out.length
 hi : out.length ≤ hi
def MKx (H0 H : Heap) (mid : Nat) (nv : Value) (N : List Int) (lo hi : Nat) (p : Int) (inn : ByteArray) : Prop := ∃ a left ov out, MK H0 H mid nv N lo hi p inn a left ov out
theorem MK.lt {H0 H : Heap} {mid : Nat} {nv : Value} {N : List Int} {lo hi : Nat} {p : Int} {inn : ByteArray} {a : Nat} {left : Int} {ov : Value} {out : List UInt8} (h : MK H0 H mid nv N lo hi p inn a left ov out) : mid < H.n := Heap.lt_of_get h.obj (by simp)
theorem MKx.more {H0 H : Heap} {mid : Nat} {nv : Value} {N : List Int} {lo hi : Nat} {p : Int} {inn : ByteArray} (h : MKx H0 H mid nv N lo hi p inn) {hi' : Nat} (hh : hi ≤ hi') : MKx H0 H mid nv N lo hi' p inn := by
 obtain ⟨a, left, ov, out, h⟩ := h
 exact ⟨a, left, ov, out, h.kp, h.hm, h.obj, h.ha, h.go, h.lo, Nat.le_trans h.hi hh⟩
theorem MK.turn {H0 H : Heap} {mid : Nat} {nv : Value} {N : List Int} {lo hi : Nat} {p : Int} {inn : ByteArray} {a : Nat} {left : Int} {ov : Value} {out : List UInt8} (h : MK H0 H mid nv N lo hi p inn a left ov out) {a' : Nat} (ha : a' ≤ N.length) (p' : Int) (inn' : ByteArray) (left' : Int) :
  MK H0 (H.set mid (.row true 0 1 [nv, .int .i64 a', ov, .int .i64 p', .string inn', .int .i64 left'])) mid nv N lo hi p' inn' a' left' ov out :=
 ⟨h.kp.then_set h.lt (.inl h.hm) _, h.hm, Heap.get_set_self _ _ h.lt, ha, h.go.move (X := fun i => i = mid) (Same.then_set (X := fun i => i = mid) (Same.refl _ _) h.lt (.inl rfl) _) fun i hi _ => ⟨hi, hi.2⟩, h.lo, h.hi⟩
theorem q_next0 : quiet Tryz.prog (drawN Tryz.f29 0) = true := by decide +kernel
theorem q_next1 : quiet Tryz.prog (drawN Tryz.f29 1) = true := by decide +kernel
theorem SL.at {H : Heap} {nv : Value} {N : List Int} (h : SL H nv N) {a : Nat} (ha : a < N.length) : ∃ r off own tl es cs cap, nv = .slice (some ⟨r, off, none⟩) N.length cap ∧ H.get r = .row own tl es cs ∧ ∃ h : off + a < cs.length, cs[off + a]'h = .int .i64 N[a] := by
 obtain ⟨base, cap, rfl, ⟨rfl, rfl⟩ | ⟨r, off, own, tl, es, cs, rfl, h2, h3, h4⟩⟩ := h
 · cases ha
 · refine ⟨r, off, own, tl, es, cs, cap, rfl, h2, by omega, ?_⟩
   have e : ((cs.drop off).take N.length)[a]? = some (.int .i64 N[a]) := by rw [h4]; simp [ha]
   rw [List.getElem?_take_of_lt ha, List.getElem?_drop] at e
   exact (List.getElem?_eq_some_iff.1 e).2
theorem SL.keep {H0 H : Heap} {nv : Value} {N : List Int} (h : SL H0 nv N) (k : Same (fun i => H0.n ≤ i) H0 H) : SL H nv N :=
 h.same fun i o e d => k.at e d (by have := Heap.lt_of_get e d; omega)
theorem slice_str (s : ByteArray) (r : Nat) (h : r + 1 ≤ s.size) (H : Heap) : exSlice Tryz.prog 9 (.string s) (some (.int .i64 (r : Int))) (some (.int .i64 ((r : Int) + 1))) none H = some (.string (s.extract r (r + 1)), H) := by
 have h2 : (r : Int) + 1 ≤ s.size := by omega
 have h3 : ((r : Int) + 1).toNat = r + 1 := by omega
 simp [exSlice, boundOf, h2, h3, show (r : Int) ≤ (r : Int) + 1 by omega]
section
variable {E : Hooks} (hE : Plain E)
include hE
theorem c_mput (args : List Value) (H : Heap) : (run Tryz.prog E).call 27 args H = callB Tryz.prog E Tryz.f27 args H := call_B Tryz.func27 rfl (by decide +kernel) (hE.no _ rfl rfl) args H
theorem c_mnext (args : List Value) (H : Heap) : (run Tryz.prog E).call 29 args H = callB Tryz.prog E Tryz.f29 args H := call_B Tryz.func29 rfl (by decide +kernel) (hE.no _ rfl rfl) args H
theorem put_ok {H0 H : Heap} {mid : Nat} {nv : Value} {N : List Int} {lo hi : Nat} {p : Int} {inn : ByteArray} (h : MKx H0 H mid nv N lo hi p inn) (s : ByteArray) (hs : hi + s.size ≤ 1000000000) :
  ∃ H', (run Tryz.prog E).call 27 [.pointer (some ⟨mid, 0, none⟩), .string s] H = some (.val (.tuple #[]), H') ∧ MKx H0 H' mid nv N (lo + s.size) (hi + s.size) p inn := by
 refine of_gives ?_
 obtain ⟨a, left, ov, out, h⟩ := h
 obtain ⟨b', H2, e2, g2, k2⟩ := out_app h.go s (by have := h.hi; omega)
 obtain ⟨b, rfl⟩ := h.go.slice
 have o1 := h.obj
 have o2 := k2.at o1 (by simp) (fun z => z.2 rfl)
 have l2 := Heap.lt_of_get o2 (by simp)
 rw [c_mput hE, callB, bodyOf]
 simp [Tryz.f27, o1, e2, o2]
 have sz : s.data.toList.length = s.size := by obtain ⟨⟨l⟩⟩ := s; rfl
 refine ⟨a, left, _, out ++ s.data.toList, (h.kp.then k2 fun i hi => .inl hi.1).then_set l2 (.inl h.hm) _, h.hm, Heap.get_set_self _ _ l2, h.ha, g2.move (X := fun i => i = mid) (Same.then_set (X := fun i => i = mid) (Same.refl _ _) l2 (.inl rfl) _) ?_, ?_, ?_⟩
 · rintro i (hi | hi) _
   · exact ⟨hi, hi.2⟩
   · have := h.kp.n
     have := h.lt
     exact ⟨⟨by omega, by omega⟩, by omega⟩
 · have := h.lo
   rw [List.length_append, sz]; omega
 · have := h.hi
   rw [List.length_append, sz]; omega
theorem next_ok {H0 H : Heap} {mid : Nat} {nv : Value} {N : List Int} {lo hi : Nat} {p : Int} {inn : ByteArray} (hN : SL H0 nv N) (hl : N.length ≤ 100000) (h : MKx H0 H mid nv N lo hi p inn) (n : Int) (h1 : 1 ≤ n) (h2 : n ≤ 100000) :
  ∃ r H', (run Tryz.prog E).call 29 [.pointer (some ⟨mid, 0, none⟩), .int .i64 n] H = some (.val (.int .i64 r), H') ∧ 0 ≤ r ∧ r < n ∧ MKx H0 H' mid nv N lo hi p inn := by
 suffices key : Gives ((run Tryz.prog E).call 29 [.pointer (some ⟨mid, 0, none⟩), .int .i64 n] H) fun o H' => ∃ r, o = .val (.int .i64 r) ∧ 0 ≤ r ∧ r < n ∧ MKx H0 H' mid nv N lo hi p inn by
  obtain ⟨o, H', e, r, rfl, k⟩ := key
  exact ⟨r, H', e, k⟩
 obtain ⟨a, left, ov, out, h⟩ := h
 have o1 := h.obj
 obtain ⟨b, rfl⟩ := h.go.slice
 rw [c_mnext hE, callB, bodyOf]
 have q0 := q_next0
 have q1 := q_next1
 obtain ⟨b0, n0, c0, rfl⟩ := hN.slice
 have hlen := hN.len
 simp only [lenA, Option.some.injEq] at hlen
 subst hlen
 simp [Tryz.f29, o1]
 refine region_quiet (by exact q0) ?_
 rcases Nat.lt_or_ge a N.length with hlt | hge
 · obtain ⟨r, off, own, tl, es, cs, cap, e, hg, hc, hv⟩ := SL.at (SL.keep hN h.kp) hlt
   cases e
   simp [o1, show ¬ (N.length : Int) ≤ a by omega, show ¬ n < 1 by omega]
   refine region_quiet (by exact q1) ?_
   have hr := fun ty u v => bin_rem (P := Tryz.prog) ty u v .i64 N[a] n (by omega)
   have hb : -n < N[a].tmod n ∧ N[a].tmod n < n := by
    have h1 := Int.tmod_lt_of_pos N[a] (show (0 : Int) < n by omega)
    have h2 := Int.neg_tmod N[a] n
    have h3 := Int.tmod_lt_of_pos (-N[a]) (show (0 : Int) < n by omega)
    omega
   generalize N[a].tmod n = y at hb hr
   have w1 : IntKind.i64.wrap ((a : Int) + 1) = ((a + 1 : Nat) : Int) := by rw [wrap64 _ (by omega) (by omega)]; omega
   have w2 : IntKind.i64.wrap (y + n) = y + n := wrap64 _ (by omega) (by omega)
   have ea : ((a + 1 : Nat) : Int) = (a : Int) + 1 := by omega
   have ht := h.turn (a' := a + 1) (by omega) p inn left
   by_cases hy : y < 0
   · simp [o1, hlt, hg, hc, hv, hr, w1, w2, hy]
     rw [← ea]
     exact ⟨by omega, by omega, _, _, _, _, ht⟩
   · simp [o1, hlt, hg, hc, hv, hr, w1, w2, hy]
     rw [← ea]
     exact ⟨by omega, by omega, _, _, _, _, ht⟩
 · simp [o1, show (N.length : Int) ≤ a by omega]
   exact ⟨by omega, _, _, _, _, h⟩
theorem c_itoa (args : List Value) (H : Heap) : (run Tryz.prog E).call 28 args H = callB Tryz.prog E Tryz.f28 args H := call_B Tryz.func28 rfl (by decide +kernel) (hE.no _ rfl rfl) args H
theorem c_itoa2 (args : List Value) (H : Heap) : (run Tryz.prog E).call 65 args H = callB Tryz.prog E Tryz.f65 args H := call_B Tryz.func65 rfl (by decide +kernel) (hE.no _ rfl rfl) args H
theorem c_fmtint (args : List Value) (H : Heap) : (run Tryz.prog E).call 85 args H = callB Tryz.prog E Tryz.f85 args H := call_B Tryz.func85 rfl (by decide +kernel) (hE.no _ rfl rfl) args H
theorem c_small (args : List Value) (H : Heap) : (run Tryz.prog E).call 93 args H = callB Tryz.prog E Tryz.f93 args H := call_B Tryz.func93 rfl (by decide +kernel) (hE.no _ rfl rfl) args H
theorem small_ok (r : Nat) (hr : r < 10) (H : Heap) : ∃ s : ByteArray, s.size ≤ 1 ∧ (run Tryz.prog E).call 93 [.int .i64 r] H = some (.val (.string s), H) := by
 suffices key : Gives ((run Tryz.prog E).call 93 [.int .i64 r] H) fun o H' => ∃ s : ByteArray, s.size ≤ 1 ∧ o = .val (.string s) ∧ H' = H by
  obtain ⟨o, H', e, s, hs, rfl, rfl⟩ := key
  exact ⟨s, hs, e⟩
 have w1 : IntKind.i64.wrap ((r : Int) + 1) = ((r + 1 : Nat) : Int) := by rw [wrap64 _ (by omega) (by omega)]; omega
 have hr' : (r : Int) < 10 := by omega
 rw [c_small hE, callB, bodyOf]
 have sl := slice_str ⟨#[48, 49, 50, 51, 52, 53, 54, 55, 56, 57, 97, 98, 99, 100, 101, 102, 103, 104, 105, 106, 107, 108, 109, 110, 111, 112, 113, 114, 115, 116, 117, 118, 119, 120, 121, 122]⟩ r (show r + 1 ≤ 36 by omega) H
 simp [Tryz.f93, hr', w1, sl]
 omega
theorem itoa_ok (r : Int) (h0 : 0 ≤ r) (hr : r < 10) (H : Heap) : ∃ s : ByteArray, s.size ≤ 1 ∧ (run Tryz.prog E).call 28 [.int .i64 r] H = some (.val (.string s), H) := by
 obtain ⟨n, rfl⟩ : ∃ n : Nat, r = n := ⟨r.toNat, by omega⟩
 obtain ⟨s, hs, e⟩ := small_ok hE n (by omega) H
 refine ⟨s, hs, ?_⟩
 have e1 : (run Tryz.prog E).call 85 [.int .i64 (n : Int), .int .i64 10] H = some (.val (.string s), H) := by
  suffices key : Gives ((run Tryz.prog E).call 85 [.int .i64 (n : Int), .int .i64 10] H) fun o H' => o = .val (.string s) ∧ H' = H by
   obtain ⟨o, H', e, rfl, rfl⟩ := key
   exact e
  rw [c_fmtint hE, callB, bodyOf]
  simp [Tryz.f85, show (n : Int) < 100 by omega, e]
 have e2 : (run Tryz.prog E).call 65 [.int .i64 (n : Int)] H = some (.val (.string s), H) := by
  suffices key : Gives ((run Tryz.prog E).call 65 [.int .i64 (n : Int)] H) fun o H' => o = .val (.string s) ∧ H' = H by
   obtain ⟨o, H', e, rfl, rfl⟩ := key
   exact e
  rw [c_itoa2 hE, callB, bodyOf]
  simp [Tryz.f65, e1]
 suffices key : Gives ((run Tryz.prog E).call 28 [.int .i64 (n : Int)] H) fun o H' => o = .val (.string s) ∧ H' = H by
  obtain ⟨o, H', e, rfl, rfl⟩ := key
  exact e
 rw [c_itoa hE, callB, bodyOf]
 simp [Tryz.f28, e2]
end
end Go.Vm.Make
namespace Go.Vm.Make
open Go Go.Proofs Go.Vm.Parse
attribute [local simp] repCells_succ writeAt rd_Fr toList_beq gpe gpn spe gse gsn ne_r0 ne_l0 le_s0 op_index
theorem MKx.low {H0 H : Heap} {mid : Nat} {nv : Value} {N : List Int} {lo lo' hi : Nat} {p : Int} {inn : ByteArray} (h : MKx H0 H mid nv N lo hi p inn) (hh : lo' ≤ lo) : MKx H0 H mid nv N lo' hi p inn := by
 obtain ⟨a, left, ov, out, h⟩ := h
 exact ⟨a, left, ov, out, h.kp, h.hm, h.obj, h.ha, h.go, Nat.le_trans hh h.lo, h.hi⟩
theorem idxA_arr {P : Program} {ty : TypeId} {len : Nat} {e : TypeId} (hty : P.underlying ty = some (.array len e)) (hs : sizeT P e = some 1) (ha : aggT P e = some false) {cs : List Value} {kd : IntKind} {j : Int} (h0 : 0 ≤ j) (hj : j < (len : Int)) {v : Value} (hv : cs[j.toNat]? = some v) (H : Heap) :
  idxA P ty (some (.agg ⟨cs⟩)) (some (.int kd j)) H = some (.val v, H) := by
 simp [idxA, hty, hs, partA, ha, h0, hj, hv]
theorem gives_idx6 {a0 a1 a2 a3 a4 a5 : ByteArray} {j : Int} {H : Heap} {Q : Out → Heap → Prop} (h0 : a0.size ≤ 40) (h1 : a1.size ≤ 40) (h2 : a2.size ≤ 40) (h3 : a3.size ≤ 40) (h4 : a4.size ≤ 40) (h5 : a5.size ≤ 40) (h : 0 ≤ j) (hj : j < 6) (k : ∀ s : ByteArray, s.size ≤ 40 → Q (.val (.string s)) H) :
  Gives (idxA Tryz.prog 131 (some (.agg ⟨[.string a0, .string a1, .string a2, .string a3, .string a4, .string a5]⟩)) (some (.int .i64 j)) H) Q := by
 rcases (show j = 0 ∨ j = 1 ∨ j = 2 ∨ j = 3 ∨ j = 4 ∨ j = 5 by omega) with rfl | rfl | rfl | rfl | rfl | rfl
 · exact ⟨_, _, idxA_arr Tryz.underlying131 (by simp) (by simp) (by omega) (by omega) rfl H, k _ h0⟩
 · exact ⟨_, _, idxA_arr Tryz.underlying131 (by simp) (by simp) (by omega) (by omega) rfl H, k _ h1⟩
 · exact ⟨_, _, idxA_arr Tryz.underlying131 (by simp) (by simp) (by omega) (by omega) rfl H, k _ h2⟩
 · exact ⟨_, _, idxA_arr Tryz.underlying131 (by simp) (by simp) (by omega) (by omega) rfl H, k _ h3⟩
 · exact ⟨_, _, idxA_arr Tryz.underlying131 (by simp) (by simp) (by omega) (by omega) rfl H, k _ h4⟩
 · exact ⟨_, _, idxA_arr Tryz.underlying131 (by simp) (by simp) (by omega) (by omega) rfl H, k _ h5⟩
theorem gives_idx2 {a0 a1 : ByteArray} {j : Int} {H : Heap} {Q : Out → Heap → Prop} (h0 : a0.size ≤ 40) (h1 : a1.size ≤ 40) (h : 0 ≤ j) (hj : j < 2) (k : ∀ s : ByteArray, s.size ≤ 40 → Q (.val (.string s)) H) :
  Gives (idxA Tryz.prog 130 (some (.agg ⟨[.string a0, .string a1]⟩)) (some (.int .i64 j)) H) Q := by
 rcases (show j = 0 ∨ j = 1 by omega) with rfl | rfl
 · exact ⟨_, _, idxA_arr Tryz.underlying130 (by simp) (by simp) (by omega) (by omega) rfl H, k _ h0⟩
 · exact ⟨_, _, idxA_arr Tryz.underlying130 (by simp) (by simp) (by omega) (by omega) rfl H, k _ h1⟩
theorem gives_idx3 {a0 a1 a2 : ByteArray} {j : Int} {H : Heap} {Q : Out → Heap → Prop} (h0 : a0.size ≤ 40) (h1 : a1.size ≤ 40) (h2 : a2.size ≤ 40) (h : 0 ≤ j) (hj : j < 3) (k : ∀ s : ByteArray, s.size ≤ 40 → Q (.val (.string s)) H) :
  Gives (idxA Tryz.prog 148 (some (.agg ⟨[.string a0, .string a1, .string a2]⟩)) (some (.int .i64 j)) H) Q := by
 rcases (show j = 0 ∨ j = 1 ∨ j = 2 by omega) with rfl | rfl | rfl
 · exact ⟨_, _, idxA_arr Tryz.underlying148 (by simp) (by simp) (by omega) (by omega) rfl H, k _ h0⟩
 · exact ⟨_, _, idxA_arr Tryz.underlying148 (by simp) (by simp) (by omega) (by omega) rfl H, k _ h1⟩
 · exact ⟨_, _, idxA_arr Tryz.underlying148 (by simp) (by simp) (by omega) (by omega) rfl H, k _ h2⟩
section
variable {E : Hooks} (hE : Plain E) {H0 : Heap} {mid : Nat} {nv : Value} {N : List Int} (hN : SL H0 nv N) (hl : N.length ≤ 100000)
include hE
theorem gives_put {H : Heap} {lo hi : Nat} {p : Int} {inn : ByteArray} (h : MKx H0 H mid nv N lo hi p inn) {s : ByteArray} {Q : Out → Heap → Prop} (hs : s.size ≤ 40) (hb : hi ≤ 900000000)
  (k : ∀ H', MKx H0 H' mid nv N lo (hi + 40) p inn → Q (.val (.tuple #[])) H') : Gives ((run Tryz.prog E).call 27 [.pointer (some ⟨mid, 0, none⟩), .string s] H) Q := by
 obtain ⟨H', e, h'⟩ := put_ok hE h s (by omega)
 exact ⟨_, _, e, k H' ((h'.low (Nat.le_add_right _ _)).more (by omega))⟩
include hN hl
theorem gives_next {H : Heap} {lo hi : Nat} {p : Int} {inn : ByteArray} (h : MKx H0 H mid nv N lo hi p inn) {n : Int} {Q : Out → Heap → Prop} (h1 : 1 ≤ n) (h2 : n ≤ 1000)
  (k : ∀ r H', 0 ≤ r → r < n → MKx H0 H' mid nv N lo hi p inn → Q (.val (.int .i64 r)) H') : Gives ((run Tryz.prog E).call 29 [.pointer (some ⟨mid, 0, none⟩), .int .i64 n] H) Q := by
 obtain ⟨r, H', e, h3, h4, h'⟩ := next_ok hE hN hl h n h1 (by omega)
 exact ⟨_, _, e, k r H' h3 h4 h'⟩
theorem c_mnum (args : List Value) (H : Heap) : (run Tryz.prog E).call 30 args H = callB Tryz.prog E Tryz.f30 args H := call_B Tryz.func30 rfl (by decide +kernel) (hE.no _ rfl rfl) args H
theorem c_mexpr (args : List Value) (H : Heap) : (run Tryz.prog E).call 68 args H = callB Tryz.prog E Tryz.f68 args H := call_B Tryz.func68 rfl (by decide +kernel) (hE.no _ rfl rfl) args H
theorem gives_num {H : Heap} {lo hi : Nat} {p : Int} {inn : ByteArray} (h : MKx H0 H mid nv N lo hi p inn) {n : Int} {Q : Out → Heap → Prop} (h1 : 1 ≤ n) (h2 : n ≤ 10) (hb : hi ≤ 900000000)
  (k : ∀ H', MKx H0 H' mid nv N lo (hi + 40) p inn → Q (.val (.tuple #[])) H') : Gives ((run Tryz.prog E).call 30 [.pointer (some ⟨mid, 0, none⟩), .int .i64 n] H) Q := by
 rw [c_mnum hE hN hl, callB, bodyOf]
 simp [Tryz.f30]
 refine gives_next hE hN hl h h1 (by omega) fun r H1 h3 h4 h => ?_
 obtain ⟨s, hs, e⟩ := itoa_ok hE r h3 (by omega) H1
 simp [e]
 refine gives_put hE h (by omega) hb fun H2 h => ?_
 simp
 exact k _ h
def bE : Nat → Nat
 | 0 => 100
 | d + 1 => 2 * bE d + 300
def InOK (inn : ByteArray) : Prop := inn = ByteArray.empty ∨ inn = ⟨#[118]⟩ ∨ inn = ⟨#[119]⟩
theorem expr_ok : ∀ d : Nat, d ≤ 3 → ∀ {H : Heap} {lo hi : Nat} {p : Int} {inn : ByteArray} {Q : Out → Heap → Prop}, MKx H0 H mid nv N lo hi p inn → InOK inn → hi + bE d ≤ 900000000 →
  (∀ H', MKx H0 H' mid nv N lo (hi + bE d) p inn → Q (.val (.tuple #[])) H') → Gives ((run Tryz.prog E).call 68 [.pointer (some ⟨mid, 0, none⟩), .int .i64 (d : Int)] H) Q := by
 intro d
 induction d using Nat.strongRecOn with
 | _ d ih =>
 intro hd3 H lo hi p inn Q h hin hb k
 rw [c_mexpr hE hN hl, callB, bodyOf]
 simp [Tryz.f68]
 refine gives_next hE hN hl h (by omega) (by omega) fun r H1 h3 h4 h => ?_
 have hb0 : 100 ≤ bE d := by cases d <;> simp only [bE] <;> omega
 have fin : ∀ {H'}, MKx H0 H' mid nv N lo (hi + 40) p inn → Q (.val (.tuple #[])) H' := fun h => k _ (h.more (by omega))
 have o1 : ∃ (a : Nat) (left : Int) (ov : Value), H1.get mid = .row true 0 1 [nv, .int .i64 a, ov, .int .i64 p, .string inn, .int .i64 left] := by
  obtain ⟨a, left, ov, out, hm⟩ := h
  exact ⟨_, _, _, hm.obj⟩
 obtain ⟨a, left, ov, o1⟩ := o1
 have z0 : IntKind.i64.wrap 0 = 0 := wrap64 0 (by omega) (by omega)
 have z1 : IntKind.i64.wrap 1 = 1 := wrap64 1 (by omega) (by omega)
 have z2 : IntKind.i64.wrap 2 = 2 := wrap64 2 (by omega) (by omega)
 have z3 : IntKind.i64.wrap 3 = 3 := wrap64 3 (by omega) (by omega)
 rcases Nat.eq_zero_or_pos d with rfl | hd
 · rcases (show r = 0 ∨ r = 1 ∨ r = 2 ∨ r = 3 ∨ r = 4 ∨ r = 5 ∨ r = 6 ∨ r = 7 ∨ r = 8 by omega) with rfl | rfl | rfl | rfl | rfl | rfl | rfl | rfl | rfl
   · simp; refine gives_num hE hN hl h (by omega) (by omega) (by omega) fun H2 h => ?_; simp; exact fin h
   · by_cases hp : 0 < p <;> simp [o1, hp] <;> (refine gives_put hE h (by decide) (by omega) fun H2 h => ?_; simp; exact fin h)
   · by_cases hp : 0 < p <;> simp [o1, hp] <;> (refine gives_put hE h (by decide) (by omega) fun H2 h => ?_; simp; exact fin h)
   · rcases hin with rfl | rfl | rfl <;> simp [o1] <;> (refine gives_put hE h (by decide) (by omega) fun H2 h => ?_; simp; exact fin h)
   · rcases hin with rfl | rfl | rfl <;> simp [o1] <;> (refine gives_put hE h (by decide) (by omega) fun H2 h => ?_; simp; exact fin h)
   · simp [z0, z1, z2, z3]; refine gives_num hE hN hl h (by omega) (by omega) (by omega) fun H2 h => ?_; simp; exact fin h
   · by_cases hp : 0 < p <;> simp [o1, hp, z0, z1, z2, z3] <;> (refine gives_put hE h (by decide) (by omega) fun H2 h => ?_; simp; exact fin h)
   · by_cases hp : 0 < p <;> simp [o1, hp, z0, z1, z2, z3] <;> (refine gives_put hE h (by decide) (by omega) fun H2 h => ?_; simp; exact fin h)
   · rcases hin with rfl | rfl | rfl <;> simp [o1, z0, z1, z2, z3] <;> (refine gives_put hE h (by decide) (by omega) fun H2 h => ?_; simp; exact fin h)
 · obtain ⟨e, rfl⟩ : ∃ e, d = e + 1 := ⟨d - 1, by omega⟩
   have d0 : ¬ ((e : Int) + 1 = 0) := by omega
   have w0 : IntKind.i64.wrap ((e : Int) + 1 - 1) = e := by rw [wrap64 _ (by omega) (by omega)]; omega
   have w1 : IntKind.i64.wrap (e : Int) = e := wrap64 _ (by omega) (by omega)
   simp only [bE] at hb k hb0 fin
   rcases (show r = 0 ∨ r = 1 ∨ r = 2 ∨ r = 3 ∨ r = 4 ∨ r = 5 ∨ r = 6 ∨ r = 7 ∨ r = 8 by omega) with rfl | rfl | rfl | rfl | rfl | rfl | rfl | rfl | rfl
   · simp [d0]; refine gives_num hE hN hl h (by omega) (by omega) (by omega) fun H2 h => ?_; simp; exact fin h
   · by_cases hp : 0 < p <;> simp [d0, o1, hp] <;> (refine gives_put hE h (by decide) (by omega) fun H2 h => ?_; simp; exact fin h)
   · by_cases hp : 0 < p <;> simp [d0, o1, hp] <;> (refine gives_put hE h (by decide) (by omega) fun H2 h => ?_; simp; exact fin h)
   · rcases hin with rfl | rfl | rfl <;> simp [d0, o1] <;> (refine gives_put hE h (by decide) (by omega) fun H2 h => ?_; simp; exact fin h)
   · rcases hin with rfl | rfl | rfl <;> simp [d0, o1] <;> (refine gives_put hE h (by decide) (by omega) fun H2 h => ?_; simp; exact fin h)
   · simp [d0]
     refine gives_put hE h (by decide) (by omega) fun H2 h => ?_
     simp
     have := ih 0 (by omega) (by omega) (H := H2) h hin (by simp only [bE]; omega) (Q := fun o H' => o = .val (.tuple #[]) ∧ MKx H0 H' mid nv N lo (hi + 40 + bE 0) p inn) (fun H' h => ⟨rfl, h⟩)
     obtain ⟨o, H3, e3, rfl, h⟩ := this
     simp at e3
     simp [e3]
     exact k _ (h.more (by simp only [bE]; omega))
   all_goals
    simp [d0]
    refine gives_put hE h (by decide) (by omega) fun H2 h => ?_
    simp [w0, w1]
    refine Gives.mono (ih e (by omega) (by omega) (H := H2) h hin (by omega) (Q := fun o H' => o = .val (.tuple #[]) ∧ MKx H0 H' mid nv N lo (hi + 40 + bE e) p inn) (fun H' h => ⟨rfl, h⟩)) ?_
    rintro _ H3 ⟨rfl, h⟩
    simp
    refine gives_next hE hN hl h (by omega) (by omega) fun j H4 h5 h6 h => ?_
    simp
    refine gives_idx6 (by decide) (by decide) (by decide) (by decide) (by decide) (by decide) h5 h6 fun s hs => ?_
    simp
    refine gives_put hE h hs (by omega) fun H5 h => ?_
    simp [w0, w1]
    refine Gives.mono (ih e (by omega) (by omega) (H := H5) h hin (by omega) (Q := fun o H' => o = .val (.tuple #[]) ∧ MKx H0 H' mid nv N lo (hi + 40 + bE e + 40 + bE e) p inn) (fun H' h => ⟨rfl, h⟩)) ?_
    rintro _ H6 ⟨rfl, h⟩
    simp
    refine gives_put hE h (by decide) (by omega) fun H7 h => ?_
    simp
    exact k _ (h.more (by omega))
end
theorem pl_callee : planOf Tryz.prog (drawN Tryz.f67 0) = some [some (0, 1), some (0, 1), some (0, 1), some (0, 1), some (0, 1), none, none, none, none, none, none, none, none, none] := by decide +kernel
theorem MKx.row {H0 H : Heap} {mid : Nat} {nv : Value} {N : List Int} {lo hi : Nat} {p : Int} {inn : ByteArray} (h : MKx H0 H mid nv N lo hi p inn) : ∃ (a : Nat) (left : Int) (b : Option Addr) (n : Nat), H.get mid = .row true 0 1 [nv, .int .i64 a, .slice b n n, .int .i64 p, .string inn, .int .i64 left] := by
 obtain ⟨a, left, ov, out, hm⟩ := h
 obtain ⟨b, rfl⟩ := hm.go.slice
 exact ⟨_, _, _, _, hm.obj⟩
def bC : Nat → Nat
 | 0 => 2 * bE 1 + 400
 | d + 1 => 2 * bC d + 2 * bE 1 + 400
section
variable {E : Hooks} (hE : Plain E) {H0 : Heap} {mid : Nat} {nv : Value} {N : List Int} (hN : SL H0 nv N) (hl : N.length ≤ 100000)
include hE hN hl
theorem gives_expr (d : Nat) (hd : d ≤ 3) {H : Heap} {lo hi : Nat} {p : Int} {inn : ByteArray} (h : MKx H0 H mid nv N lo hi p inn) (hin : InOK inn) {z : Int} {Q : Out → Heap → Prop} (hz : z = d) (hb : hi + bE d ≤ 900000000)
  (k : ∀ H', MKx H0 H' mid nv N lo (hi + bE d) p inn → Q (.val (.tuple #[])) H') : Gives ((run Tryz.prog E).call 68 [.pointer (some ⟨mid, 0, none⟩), .int .i64 z] H) Q := by
 subst hz
 exact expr_ok hE hN hl d hd h hin hb k
theorem c_mcond (args : List Value) (H : Heap) : (run Tryz.prog E).call 86 args H = callB Tryz.prog E Tryz.f86 args H := call_B Tryz.func86 rfl (by decide +kernel) (hE.no _ rfl rfl) args H
theorem c_mwait (args : List Value) (H : Heap) : (run Tryz.prog E).call 97 args H = callB Tryz.prog E Tryz.f97 args H := call_B Tryz.func97 rfl (by decide +kernel) (hE.no _ rfl rfl) args H
theorem c_mitems (args : List Value) (H : Heap) : (run Tryz.prog E).call 87 args H = callB Tryz.prog E Tryz.f87 args H := call_B Tryz.func87 rfl (by decide +kernel) (hE.no _ rfl rfl) args H
theorem c_mcallee (args : List Value) (H : Heap) : (run Tryz.prog E).call 67 args H = callB Tryz.prog E Tryz.f67 args H := call_B Tryz.func67 rfl (by decide +kernel) (hE.no _ rfl rfl) args H
theorem cond_ok : ∀ d : Nat, d ≤ 3 → ∀ {H : Heap} {lo hi : Nat} {p : Int} {inn : ByteArray} {Q : Out → Heap → Prop}, MKx H0 H mid nv N lo hi p inn → InOK inn → hi + bC d ≤ 900000000 →
  (∀ H', MKx H0 H' mid nv N lo (hi + bC d) p inn → Q (.val (.tuple #[])) H') → Gives ((run Tryz.prog E).call 86 [.pointer (some ⟨mid, 0, none⟩), .int .i64 (d : Int)] H) Q := by
 intro d
 induction d using Nat.strongRecOn with
 | _ d ih =>
 intro hd3 H lo hi p inn Q h hin hb k
 rw [c_mcond hE hN hl, callB, bodyOf]
 simp [Tryz.f86]
 refine gives_next hE hN hl h (by omega) (by omega) fun r H1 h3 h4 h => ?_
 have hb0 : 2 * bE 1 + 400 ≤ bC d := by cases d <;> simp only [bC] <;> omega
 rcases Nat.eq_zero_or_pos d with rfl | hd
 · rcases (show r = 0 ∨ r = 1 ∨ r = 2 ∨ r = 3 ∨ r = 4 ∨ r = 5 ∨ r = 6 ∨ r = 7 by omega) with rfl | rfl | rfl | rfl | rfl | rfl | rfl | rfl
   · simp
     refine gives_expr hE hN hl 1 (by omega) h hin rfl (by omega) fun H2 h => ?_
     simp
     refine gives_next hE hN hl h (by omega) (by omega) fun j H4 h5 h6 h => ?_
     simp
     refine gives_idx6 (by decide) (by decide) (by decide) (by decide) (by decide) (by decide) h5 h6 fun s hs => ?_
     simp
     refine gives_put hE h hs (by omega) fun H5 h => ?_
     simp
     refine gives_expr hE hN hl 1 (by omega) h hin rfl (by omega) fun H6 h => ?_
     simp
     exact k _ (h.more (by omega))
   · simp
     refine gives_expr hE hN hl 1 (by omega) h hin rfl (by omega) fun H2 h => ?_
     simp
     refine gives_next hE hN hl h (by omega) (by omega) fun j H4 h5 h6 h => ?_
     simp
     refine gives_idx6 (by decide) (by decide) (by decide) (by decide) (by decide) (by decide) h5 h6 fun s hs => ?_
     simp
     refine gives_put hE h hs (by omega) fun H5 h => ?_
     simp
     refine gives_expr hE hN hl 1 (by omega) h hin rfl (by omega) fun H6 h => ?_
     simp
     exact k _ (h.more (by omega))
   · simp
     refine gives_expr hE hN hl 1 (by omega) h hin rfl (by omega) fun H2 h => ?_
     simp
     refine gives_next hE hN hl h (by omega) (by omega) fun j H4 h5 h6 h => ?_
     simp
     refine gives_idx6 (by decide) (by decide) (by decide) (by decide) (by decide) (by decide) h5 h6 fun s hs => ?_
     simp
     refine gives_put hE h hs (by omega) fun H5 h => ?_
     simp
     refine gives_expr hE hN hl 1 (by omega) h hin rfl (by omega) fun H6 h => ?_
     simp
     exact k _ (h.more (by omega))
   · simp
     refine gives_expr hE hN hl 1 (by omega) h hin rfl (by omega) fun H2 h => ?_
     simp
     refine gives_next hE hN hl h (by omega) (by omega) fun j H4 h5 h6 h => ?_
     simp
     refine gives_idx6 (by decide) (by decide) (by decide) (by decide) (by decide) (by decide) h5 h6 fun s hs => ?_
     simp
     refine gives_put hE h hs (by omega) fun H5 h => ?_
     simp
     refine gives_expr hE hN hl 1 (by omega) h hin rfl (by omega) fun H6 h => ?_
     simp
     exact k _ (h.more (by omega))
   · simp
     refine gives_next hE hN hl h (by omega) (by omega) fun j H4 h5 h6 h => ?_
     simp
     refine gives_idx2 (by decide) (by decide) h5 h6 fun s hs => ?_
     simp
     refine gives_put hE h hs (by omega) fun H5 h => ?_
     simp
     exact k _ (h.more (by omega))
   · simp
     refine gives_expr hE hN hl 1 (by omega) h hin rfl (by omega) fun H2 h => ?_
     simp
     refine gives_next hE hN hl h (by omega) (by omega) fun j H4 h5 h6 h => ?_
     simp
     refine gives_idx6 (by decide) (by decide) (by decide) (by decide) (by decide) (by decide) h5 h6 fun s hs => ?_
     simp
     refine gives_put hE h hs (by omega) fun H5 h => ?_
     simp
     refine gives_expr hE hN hl 1 (by omega) h hin rfl (by omega) fun H6 h => ?_
     simp
     exact k _ (h.more (by omega))
   · simp
     refine gives_expr hE hN hl 1 (by omega) h hin rfl (by omega) fun H2 h => ?_
     simp
     refine gives_next hE hN hl h (by omega) (by omega) fun j H4 h5 h6 h => ?_
     simp
     refine gives_idx6 (by decide) (by decide) (by decide) (by decide) (by decide) (by decide) h5 h6 fun s hs => ?_
     simp
     refine gives_put hE h hs (by omega) fun H5 h => ?_
     simp
     refine gives_expr hE hN hl 1 (by omega) h hin rfl (by omega) fun H6 h => ?_
     simp
     exact k _ (h.more (by omega))
   · simp
     refine gives_expr hE hN hl 1 (by omega) h hin rfl (by omega) fun H2 h => ?_
     simp
     refine gives_next hE hN hl h (by omega) (by omega) fun j H4 h5 h6 h => ?_
     simp
     refine gives_idx6 (by decide) (by decide) (by decide) (by decide) (by decide) (by decide) h5 h6 fun s hs => ?_
     simp
     refine gives_put hE h hs (by omega) fun H5 h => ?_
     simp
     refine gives_expr hE hN hl 1 (by omega) h hin rfl (by omega) fun H6 h => ?_
     simp
     exact k _ (h.more (by omega))
 · obtain ⟨e, rfl⟩ : ∃ e, d = e + 1 := ⟨d - 1, by omega⟩
   have d0 : ¬ ((e : Int) + 1 = 0) := by omega
   have w1 : IntKind.i64.wrap (e : Int) = e := wrap64 _ (by omega) (by omega)
   have z0 : IntKind.i64.wrap 0 = 0 := wrap64 0 (by omega) (by omega)
   have z1 : IntKind.i64.wrap 1 = 1 := wrap64 1 (by omega) (by omega)
   have hce : bC (e + 1) = 2 * bC e + 2 * bE 1 + 400 := rfl
   have rec_ : ∀ {H : Heap} {hi' : Nat} {Q : Out → Heap → Prop}, MKx H0 H mid nv N lo hi' p inn → hi' + bC e ≤ 900000000 → (∀ H', MKx H0 H' mid nv N lo (hi' + bC e) p inn → Q (.val (.tuple #[])) H') → Gives ((run Tryz.prog E).call 86 [.pointer (some ⟨mid, 0, none⟩), .int .i64 (e : Int)] H) Q :=
    fun h hb k => ih e (by omega) (by omega) h hin hb k
   rcases (show r = 0 ∨ r = 1 ∨ r = 2 ∨ r = 3 ∨ r = 4 ∨ r = 5 ∨ r = 6 ∨ r = 7 by omega) with rfl | rfl | rfl | rfl | rfl | rfl | rfl | rfl
   · simp [d0]
     refine gives_expr hE hN hl 1 (by omega) h hin rfl (by omega) fun H2 h => ?_
     simp
     refine gives_next hE hN hl h (by omega) (by omega) fun j H4 h5 h6 h => ?_
     simp
     refine gives_idx6 (by decide) (by decide) (by decide) (by decide) (by decide) (by decide) h5 h6 fun s hs => ?_
     simp
     refine gives_put hE h hs (by omega) fun H5 h => ?_
     simp
     refine gives_expr hE hN hl 1 (by omega) h hin rfl (by omega) fun H6 h => ?_
     simp
     exact k _ (h.more (by omega))
   · simp [d0]
     refine gives_expr hE hN hl 1 (by omega) h hin rfl (by omega) fun H2 h => ?_
     simp
     refine gives_next hE hN hl h (by omega) (by omega) fun j H4 h5 h6 h => ?_
     simp
     refine gives_idx6 (by decide) (by decide) (by decide) (by decide) (by decide) (by decide) h5 h6 fun s hs => ?_
     simp
     refine gives_put hE h hs (by omega) fun H5 h => ?_
     simp
     refine gives_expr hE hN hl 1 (by omega) h hin rfl (by omega) fun H6 h => ?_
     simp
     exact k _ (h.more (by omega))
   · simp [d0]
     refine gives_expr hE hN hl 1 (by omega) h hin rfl (by omega) fun H2 h => ?_
     simp
     refine gives_next hE hN hl h (by omega) (by omega) fun j H4 h5 h6 h => ?_
     simp
     refine gives_idx6 (by decide) (by decide) (by decide) (by decide) (by decide) (by decide) h5 h6 fun s hs => ?_
     simp
     refine gives_put hE h hs (by omega) fun H5 h => ?_
     simp
     refine gives_expr hE hN hl 1 (by omega) h hin rfl (by omega) fun H6 h => ?_
     simp
     exact k _ (h.more (by omega))
   · simp [d0]
     refine gives_expr hE hN hl 1 (by omega) h hin rfl (by omega) fun H2 h => ?_
     simp
     refine gives_next hE hN hl h (by omega) (by omega) fun j H4 h5 h6 h => ?_
     simp
     refine gives_idx6 (by decide) (by decide) (by decide) (by decide) (by decide) (by decide) h5 h6 fun s hs => ?_
     simp
     refine gives_put hE h hs (by omega) fun H5 h => ?_
     simp
     refine gives_expr hE hN hl 1 (by omega) h hin rfl (by omega) fun H6 h => ?_
     simp
     exact k _ (h.more (by omega))
   · simp [d0]
     refine gives_next hE hN hl h (by omega) (by omega) fun j H4 h5 h6 h => ?_
     simp
     refine gives_idx2 (by decide) (by decide) h5 h6 fun s hs => ?_
     simp
     refine gives_put hE h hs (by omega) fun H5 h => ?_
     simp
     exact k _ (h.more (by omega))
   · simp [d0]
     refine gives_put hE h (by decide) (by omega) fun H2 h => ?_
     simp [w1]
     refine rec_ h (by omega) fun H3 h => ?_
     simp
     refine gives_put hE h (by decide) (by omega) fun H4 h => ?_
     simp
     exact k _ (h.more (by omega))
   · simp [d0]
     refine gives_put hE h (by decide) (by omega) fun H2 h => ?_
     simp [w1]
     refine rec_ h (by omega) fun H3 h => ?_
     simp [z0]
     refine gives_idx2 (by decide) (by decide) (by omega) (by omega) fun s hs => ?_
     simp
     refine gives_put hE h hs (by omega) fun H5 h => ?_
     simp [w1]
     refine rec_ h (by omega) fun H3 h => ?_
     simp
     refine gives_put hE h (by decide) (by omega) fun H4 h => ?_
     simp
     exact k _ (h.more (by omega))
   · simp [d0]
     refine gives_put hE h (by decide) (by omega) fun H2 h => ?_
     simp [w1]
     refine rec_ h (by omega) fun H3 h => ?_
     simp [z1]
     refine gives_idx2 (by decide) (by decide) (by omega) (by omega) fun s hs => ?_
     simp
     refine gives_put hE h hs (by omega) fun H5 h => ?_
     simp [w1]
     refine rec_ h (by omega) fun H3 h => ?_
     simp
     refine gives_put hE h (by decide) (by omega) fun H4 h => ?_
     simp
     exact k _ (h.more (by omega))
theorem gives_cond (d : Nat) (hd : d ≤ 3) {H : Heap} {lo hi : Nat} {p : Int} {inn : ByteArray} (h : MKx H0 H mid nv N lo hi p inn) (hin : InOK inn) {z : Int} {Q : Out → Heap → Prop} (hz : z = d) (hb : hi + bC d ≤ 900000000)
  (k : ∀ H', MKx H0 H' mid nv N lo (hi + bC d) p inn → Q (.val (.tuple #[])) H') : Gives ((run Tryz.prog E).call 86 [.pointer (some ⟨mid, 0, none⟩), .int .i64 z] H) Q := by
 subst hz
 exact cond_ok hE hN hl d hd h hin hb k
theorem gives_wait {H : Heap} {lo hi : Nat} {p : Int} {inn : ByteArray} (h : MKx H0 H mid nv N lo hi p inn) (hin : InOK inn) {Q : Out → Heap → Prop} (hb : hi + 200 ≤ 900000000)
  (k : ∀ H', MKx H0 H' mid nv N lo (hi + 200) p inn → Q (.val (.tuple #[])) H') : Gives ((run Tryz.prog E).call 97 [.pointer (some ⟨mid, 0, none⟩)] H) Q := by
 rw [c_mwait hE hN hl, callB, bodyOf]
 obtain ⟨a, left, b, n, o1⟩ := h.row
 rcases hin with rfl | rfl | rfl
 all_goals
  simp [Tryz.f97, o1]
  refine gives_put hE h (by decide) (by omega) fun H2 h => ?_
  simp
  refine gives_next hE hN hl h (by omega) (by omega) fun j H4 h5 h6 h => ?_
  simp
  refine gives_idx3 (by decide) (by decide) (by decide) h5 h6 fun s hs => ?_
  simp
  refine gives_put hE h hs (by omega) fun H5 h => ?_
  simp
  refine gives_num hE hN hl h (by omega) (by omega) (by omega) fun H6 h => ?_
  simp
  exact k _ (h.more (by omega))
theorem gives_items {H : Heap} {lo hi : Nat} {p : Int} {inn : ByteArray} (h : MKx H0 H mid nv N lo hi p inn) {Q : Out → Heap → Prop} (hb : hi + 200 ≤ 900000000)
  (k : ∀ H', MKx H0 H' mid nv N lo (hi + 200) p inn → Q (.val (.tuple #[])) H') : Gives ((run Tryz.prog E).call 87 [.pointer (some ⟨mid, 0, none⟩)] H) Q := by
 rw [c_mitems hE hN hl, callB, bodyOf]
 simp [Tryz.f87]
 refine gives_next hE hN hl h (by omega) (by omega) fun r H1 h3 h4 h => ?_
 by_cases hr : r = 0
 · subst hr
   simp
   refine gives_put hE h (by decide) (by omega) fun H2 h => ?_
   simp
   refine gives_put hE h (by decide) (by omega) fun H2 h => ?_
   simp
   refine gives_next hE hN hl h (by omega) (by omega) fun r H1 h3 h4 h => ?_
   obtain ⟨s, hs, e⟩ := itoa_ok hE (1 + r) (by omega) (by omega) H1
   simp [wrap64 (1 + r) (by omega) (by omega), e]
   refine gives_put hE h (by omega) (by omega) fun H2 h => ?_
   simp
   exact k _ (h.more (by omega))
 · simp [hr]
   refine gives_put hE h (by decide) (by omega) fun H2 h => ?_
   simp
   refine gives_next hE hN hl h (by omega) (by omega) fun r H1 h3 h4 h => ?_
   obtain ⟨s, hs, e⟩ := itoa_ok hE (1 + r) (by omega) (by omega) H1
   simp [wrap64 (1 + r) (by omega) (by omega), e]
   refine gives_put hE h (by omega) (by omega) fun H2 h => ?_
   simp
   exact k _ (h.more (by omega))
theorem callee_ok {H : Heap} {lo hi : Nat} {p : Int} {inn : ByteArray} (h : MKx H0 H mid nv N lo hi p inn) (hp0 : 0 ≤ p) (hp3 : p ≤ 3) :
  ∃ r H', (run Tryz.prog E).call 67 [.pointer (some ⟨mid, 0, none⟩)] H = some (.val (.int .i64 r), H') ∧ 1 ≤ r ∧ r ≤ 3 ∧ MKx H0 H' mid nv N lo hi p inn := by
 suffices key : Gives ((run Tryz.prog E).call 67 [.pointer (some ⟨mid, 0, none⟩)] H) fun o H' => ∃ r, o = .val (.int .i64 r) ∧ 1 ≤ r ∧ r ≤ 3 ∧ MKx H0 H' mid nv N lo hi p inn by
  obtain ⟨o, H', e, r, rfl, k⟩ := key
  exact ⟨r, H', e, k⟩
 rw [c_mcallee hE hN hl, callB, bodyOf]
 obtain ⟨a, left, b, n, o1⟩ := h.row
 by_cases h3 : 3 ≤ p
 · simp [Tryz.f67, o1, h3]
   exact h
 · obtain ⟨r, H1, e, h5, h6, h7⟩ := next_ok hE hN hl h (3 - p) (by omega) (by omega)
   obtain ⟨a', left', b', n', o2⟩ := h7.row
   have w1 : IntKind.i64.wrap (p + 1) = p + 1 := wrap64 _ (by omega) (by omega)
   have w2 : IntKind.i64.wrap (3 - p) = 3 - p := wrap64 _ (by omega) (by omega)
   have w3 : IntKind.i64.wrap (p + 1 + r) = p + 1 + r := wrap64 _ (by omega) (by omega)
   simp [Tryz.f67, o1, h3]
   refine region_plan (by exact pl_callee) ?_
   simp [drawF, o1, w1, w2, e, w3, o2]
   exact ⟨by omega, by omega, h7⟩
end
def bF : Nat := 400 + bE 1
def FkI (H0 : Heap) (mid : Nat) (nv : Value) (N : List Int) (lo hi : Nat) (p : Int) (inn : ByteArray) (n : Nat) (m : Nat) (t : List Value) (K : Heap) : Prop :=
 ∃ i : Nat, i ≤ n ∧ m = n - i ∧ rd t 3 = .int .i64 i ∧ MKx H0 K mid nv N lo (hi + 40 + i * bF) p inn
section
variable {E : Hooks} (hE : Plain E) {H0 : Heap} {mid : Nat} {nv : Value} {N : List Int} (hN : SL H0 nv N) (hl : N.length ≤ 100000)
include hE hN hl
theorem c_mfork (args : List Value) (H : Heap) : (run Tryz.prog E).call 32 args H = callB Tryz.prog E Tryz.f32 args H := call_B Tryz.func32 rfl (by decide +kernel) (hE.no _ rfl rfl) args H
theorem gives_fork {H : Heap} {lo hi : Nat} {p : Int} {inn : ByteArray} (h : MKx H0 H mid nv N lo hi p inn) (hin : InOK inn) (hp0 : 0 ≤ p) (hp3 : p ≤ 3) {Q : Out → Heap → Prop} (hb : hi + 3 * bF + 80 ≤ 800000000)
  (k : ∀ H', MKx H0 H' mid nv N lo (hi + 3 * bF + 80) p inn → Q (.val (.tuple #[])) H') : Gives ((run Tryz.prog E).call 32 [.pointer (some ⟨mid, 0, none⟩)] H) Q := by
 rw [c_mfork hE hN hl, callB, bodyOf]
 have hbF : bF = 400 + bE 1 := rfl
 have hbE : bE 1 ≤ 1000 := by decide
 have c1 : (⟨#[112]⟩ : ByteArray).size = 1 := rfl
 have c2 : (⟨#[40]⟩ : ByteArray).size = 1 := rfl
 simp [Tryz.f32]
 refine gives_next hE hN hl h (by omega) (by omega) fun r H1 r1 r3 h => ?_
 obtain ⟨n, hn⟩ : ∃ n : Nat, 1 + r = n := ⟨(1 + r).toNat, by omega⟩
 simp [wrap64 (1 + r) (by omega) (by omega)]
 rw [hn]
 refine gives_put hE h (by decide) (by omega) fun H2 h => ?_
 simp
 refine loop_mid2 (fun t K => MKx H0 K mid nv N lo (hi + 40 + 3 * bF) p inn) (FkI H0 mid nv N lo hi p inn n) n ?_ ?_ ?_
 · exact ⟨0, Nat.zero_le _, by omega, by simp, h.more (by omega)⟩
 · rintro m t K hkk ⟨i, hi', rfl, g3, h⟩
   have ht : t.length = 47 := hkk.1.trans (by simp [len_Bs])
   have hh := hkk.all [0, 2] (by decide +kernel)
   simp at hh
   obtain ⟨u0, u2⟩ := hh
   have w1 : IntKind.i64.wrap ((i : Int) + 1) = (i : Int) + 1 := wrap64 _ (by omega) (by omega)
   have w11 : IntKind.i64.wrap 1 = 1 := wrap64 1 (by omega) (by omega)
   have him : i * bF ≤ 3 * bF := Nat.mul_le_mul_right _ (by omega)
   rcases Nat.lt_or_ge i n with hlt | hge
   · rcases Nat.eq_zero_or_pos i with rfl | hi0
     · simp [ht, u0, u2, g3, show 0 < n by omega]
       obtain ⟨r, H2, e, r1, r3, h⟩ := callee_ok hE hN hl h hp0 hp3
       obtain ⟨s, hs, e2⟩ := itoa_ok hE r (by omega) (by omega) H2
       have f1 := fun a b => bin_cat2 a b ⟨#[112]⟩ s (by rw [c1]; omega)
       have f2 := fun a b => bin_cat2 a b (⟨#[112]⟩ ++ s) ⟨#[40]⟩ (by rw [ByteArray.size_append, c1, c2]; omega)
       simp [ht, u0, e, e2, f1, f2]
       refine gives_put hE h (s := ⟨#[112]⟩ ++ s ++ ⟨#[40]⟩) (by simp only [ByteArray.size_append, c1, c2]; omega) (by omega) fun H3 h => ?_
       simp [ht, u0]
       refine gives_expr hE hN hl 1 (by omega) h hin rfl (by omega) fun H4 h => ?_
       simp [ht, u0]
       refine gives_put hE h (by decide) (by omega) fun H5 h => ?_
       simp [ht, u0]
       refine gives_next hE hN hl h (by omega) (by omega) fun r H6 r1 r3 h => ?_
       by_cases hr : 0 < r
       · simp [ht, hr, u0]
         refine gives_put hE h (by decide) (by omega) fun H7 h => ?_
         simp [ht, u0]
         refine gives_next hE hN hl h (by omega) (by omega) fun r H8 r1 r3 h => ?_
         obtain ⟨s, hs, e2⟩ := itoa_ok hE (1 + r) (by omega) (by omega) H8
         simp [ht, wrap64 (1 + r) (by omega) (by omega), e2]
         refine gives_put hE h (by omega) (by omega) fun H9 h => ?_
         simp [ht, u0]
         refine gives_next hE hN hl h (by omega) (by omega) fun r H10 r1 r3 h => ?_
         by_cases hr : r = 1
         · simp [ht, hr, u0]
           refine gives_put hE h (by decide) (by omega) fun H11 h => ?_
           simp [ht, g3, w1, w11]
           exact ⟨n - 1, by omega, 1, by omega, rfl, by simp [ht], h.more (by omega)⟩
         · simp [hr, u0, ht, g3, w1, w11]
           exact ⟨n - 1, by omega, 1, by omega, rfl, by simp [ht], h.more (by omega)⟩
       · simp [hr, u0, ht, g3, w1, w11]
         exact ⟨n - 1, by omega, 1, by omega, rfl, by simp [ht], h.more (by omega)⟩
     · simp [ht, u0, u2, g3, hlt, hi0]
       refine gives_put hE h (by decide) (by omega) fun H1 h => ?_
       simp [ht, u0]
       obtain ⟨r, H2, e, r1, r3, h⟩ := callee_ok hE hN hl h hp0 hp3
       obtain ⟨s, hs, e2⟩ := itoa_ok hE r (by omega) (by omega) H2
       have f1 := fun a b => bin_cat2 a b ⟨#[112]⟩ s (by rw [c1]; omega)
       have f2 := fun a b => bin_cat2 a b (⟨#[112]⟩ ++ s) ⟨#[40]⟩ (by rw [ByteArray.size_append, c1, c2]; omega)
       simp [ht, u0, e, e2, f1, f2]
       refine gives_put hE h (s := ⟨#[112]⟩ ++ s ++ ⟨#[40]⟩) (by simp only [ByteArray.size_append, c1, c2]; omega) (by omega) fun H3 h => ?_
       simp [ht, u0]
       refine gives_expr hE hN hl 1 (by omega) h hin rfl (by omega) fun H4 h => ?_
       simp [ht, u0]
       refine gives_put hE h (by decide) (by omega) fun H5 h => ?_
       simp [ht, u0]
       refine gives_next hE hN hl h (by omega) (by omega) fun r H6 r1 r3 h => ?_
       by_cases hr : 0 < r
       · simp [ht, hr, u0]
         refine gives_put hE h (by decide) (by omega) fun H7 h => ?_
         simp [ht, u0]
         refine gives_next hE hN hl h (by omega) (by omega) fun r H8 r1 r3 h => ?_
         obtain ⟨s, hs, e2⟩ := itoa_ok hE (1 + r) (by omega) (by omega) H8
         simp [ht, wrap64 (1 + r) (by omega) (by omega), e2]
         refine gives_put hE h (by omega) (by omega) fun H9 h => ?_
         simp [ht, u0]
         refine gives_next hE hN hl h (by omega) (by omega) fun r H10 r1 r3 h => ?_
         by_cases hr : r = 1
         · simp [ht, hr, u0]
           refine gives_put hE h (by decide) (by omega) fun H11 h => ?_
           simp [ht, g3, w1, w11]
           exact ⟨n - (i + 1), by omega, i + 1, by omega, rfl, by simp [ht], h.more (by rw [Nat.add_mul]; omega)⟩
         · simp [hr, u0, ht, g3, w1, w11]
           exact ⟨n - (i + 1), by omega, i + 1, by omega, rfl, by simp [ht], h.more (by rw [Nat.add_mul]; omega)⟩
       · simp [hr, u0, ht, g3, w1, w11]
         exact ⟨n - (i + 1), by omega, i + 1, by omega, rfl, by simp [ht], h.more (by rw [Nat.add_mul]; omega)⟩
   · simp [ht, u2, g3, show ¬ i < n by omega]
     exact h.more (by omega)
 · rintro t K hkk h
   have ht : t.length = 47 := hkk.1.trans (by simp [len_Bs])
   have hh := hkk.all [0] (by decide +kernel)
   simp at hh
   simp [ht, hh]
   refine gives_put hE h (by decide) (by omega) fun H2 h => ?_
   simp
   exact k _ (h.more (by omega))
end
theorem MKx.turn {H0 H : Heap} {mid : Nat} {nv : Value} {N : List Int} {lo hi : Nat} {p : Int} {inn : ByteArray} (h : MKx H0 H mid nv N lo hi p inn) : ∃ (a : Nat) (left : Int) (b : Option Addr) (n : Nat), H.get mid = .row true 0 1 [nv, .int .i64 a, .slice b n n, .int .i64 p, .string inn, .int .i64 left] ∧
  ∀ (inn' : ByteArray) (left' : Int), MKx H0 (H.set mid (.row true 0 1 [nv, .int .i64 a, .slice b n n, .int .i64 p, .string inn', .int .i64 left'])) mid nv N lo hi p inn' := by
 obtain ⟨a, left, ov, out, hm⟩ := h
 obtain ⟨b, rfl⟩ := hm.go.slice
 exact ⟨a, left, b, out.length, hm.obj, fun inn' left' => ⟨a, left', _, out, MK.turn hm hm.ha p inn' left'⟩⟩
def bT : Nat → Nat
 | 0 => 3 * bF + bC 1 + bE 2 + 2000
 | d + 1 => 2 * (3 * (bT d + 40) + 40) + 3 * bF + bC 1 + bE 2 + 2000
def bS (d : Nat) : Nat := 3 * (bT d + 40) + 40
def StmtOK (E : Hooks) (H0 : Heap) (mid : Nat) (nv : Value) (N : List Int) (p : Int) (f : FuncId) (d b : Nat) : Prop := ∀ {H : Heap} {lo hi : Nat} {inn : ByteArray} {Q : Out → Heap → Prop}, MKx H0 H mid nv N lo hi p inn → InOK inn → hi + b ≤ 800000000 →
 (∀ H', MKx H0 H' mid nv N lo (hi + b) p inn → Q (.val (.tuple #[])) H') → Gives ((run Tryz.prog E).call f [.pointer (some ⟨mid, 0, none⟩), .int .i64 (d : Int)] H) Q
def StI (H0 : Heap) (mid : Nat) (nv : Value) (N : List Int) (lo hi : Nat) (p : Int) (inn : ByteArray) (B n : Nat) (m : Nat) (t : List Value) (K : Heap) : Prop :=
 ∃ i : Nat, i ≤ n ∧ m = n - i ∧ rd t 5 = .int .i64 i ∧ MKx H0 K mid nv N lo (hi + i * B) p inn
section
variable {E : Hooks} (hE : Plain E) {H0 : Heap} {mid : Nat} {nv : Value} {N : List Int} (hN : SL H0 nv N) (hl : N.length ≤ 100000)
include hE hN hl
theorem c_mstmts (args : List Value) (H : Heap) : (run Tryz.prog E).call 31 args H = callB Tryz.prog E Tryz.f31 args H := call_B Tryz.func31 rfl (by decide +kernel) (hE.no _ rfl rfl) args H
theorem c_mregion (args : List Value) (H : Heap) : (run Tryz.prog E).call 88 args H = callB Tryz.prog E Tryz.f88 args H := call_B Tryz.func88 rfl (by decide +kernel) (hE.no _ rfl rfl) args H
theorem stmts_of {p : Int} {d : Nat} (hst : StmtOK E H0 mid nv N p 66 d (bT d)) : StmtOK E H0 mid nv N p 31 d (bS d) := by
 intro H lo hi inn Q h hin hb k
 rw [c_mstmts hE hN hl, callB, bodyOf]
 have hbS : bS d = 3 * (bT d + 40) + 40 := rfl
 simp [Tryz.f31]
 refine gives_next hE hN hl h (by omega) (by omega) fun r H1 r1 r3 h => ?_
 obtain ⟨n, hn⟩ : ∃ n : Nat, 1 + r = n := ⟨(1 + r).toNat, by omega⟩
 simp [wrap64 (1 + r) (by omega) (by omega)]
 rw [hn]
 refine loop_wp (StI H0 mid nv N lo hi p inn (bT d + 40) n) n ?_ ?_
 · exact ⟨0, Nat.zero_le _, by omega, by simp, h.more (by omega)⟩
 · rintro m t K hkk ⟨i, hi', rfl, g5, h⟩
   have ht : t.length = 21 := hkk.1.trans (by simp [len_Bs])
   have hh := hkk.all [0, 1, 4] (by decide +kernel)
   simp at hh
   obtain ⟨u0, u1, u4⟩ := hh
   have w1 : IntKind.i64.wrap ((i : Int) + 1) = (i : Int) + 1 := wrap64 _ (by omega) (by omega)
   have w11 : IntKind.i64.wrap 1 = 1 := wrap64 1 (by omega) (by omega)
   have him : i * (bT d + 40) ≤ 3 * (bT d + 40) := Nat.mul_le_mul_right _ (by omega)
   rcases Nat.lt_or_ge i n with hlt | hge
   · have him2 : i * (bT d + 40) ≤ 2 * (bT d + 40) := Nat.mul_le_mul_right _ (by omega)
     rcases Nat.eq_zero_or_pos i with rfl | hi0
     · simp [ht, u0, u1, u4, g5, show 0 < n by omega]
       refine hst h hin (by omega) fun H2 h => ?_
       simp [ht, g5, w11]
       exact ⟨n - 1, by omega, 1, by omega, rfl, by simp [ht], h.more (by omega)⟩
     · simp [ht, u0, u1, u4, g5, hlt, hi0]
       refine gives_put hE h (by decide) (by omega) fun H1 h => ?_
       simp [ht, u0, u1]
       refine hst h hin (by omega) fun H2 h => ?_
       simp [ht, g5, w1]
       exact ⟨n - (i + 1), by omega, i + 1, by omega, rfl, by simp [ht], h.more (by rw [Nat.add_mul]; omega)⟩
   · simp [ht, u4, g5, show ¬ i < n by omega]
     exact k _ (h.more (by omega))
theorem region_of {p : Int} {e : Nat} (he : e ≤ 3) (hrec : StmtOK E H0 mid nv N p 31 e (bS e)) : StmtOK E H0 mid nv N p 88 (e + 1) (bS e + 800) := by
 intro H lo hi inn Q h hin hb k
 rw [c_mregion hE hN hl, callB, bodyOf]
 have w1 : IntKind.i64.wrap (e : Int) = e := wrap64 _ (by omega) (by omega)
 obtain ⟨a0, left0, b0, n0, o0, _⟩ := h.turn
 simp [Tryz.f88, o0]
 refine gives_next hE hN hl h (by omega) (by omega) fun r H1 h3 h4 h => ?_
 obtain ⟨a, left, b, n, o1, ht⟩ := h.turn
 have e2 : ∀ (j : Int) (v : ByteArray), j = 0 ∧ v = ⟨#[118]⟩ ∨ j = 1 ∧ v = ⟨#[119]⟩ → idxA Tryz.prog 130 (some (.agg ⟨[.string ⟨#[118]⟩, .string ⟨#[119]⟩]⟩)) (some (.int .i64 j)) H1 = some (.val (.string v), H1) := by
  rintro j v (⟨rfl, rfl⟩ | ⟨rfl, rfl⟩)
  · exact idxA_arr Tryz.underlying130 (by simp) (by simp) (by omega) (by omega) rfl H1
  · exact idxA_arr Tryz.underlying130 (by simp) (by simp) (by omega) (by omega) rfl H1
 have f1 := fun a b => bin_cat2 a b ⟨#[114, 101, 103, 105, 111, 110, 32]⟩ ⟨#[118]⟩ (by decide)
 have f2 := fun a b => bin_cat2 a b ⟨#[114, 101, 103, 105, 111, 110, 32]⟩ ⟨#[119]⟩ (by decide)
 rcases (show r = 0 ∨ r = 1 by omega) with rfl | rfl
 · have ev := e2 0 ⟨#[118]⟩ (.inl ⟨rfl, rfl⟩)
   rcases hin with rfl | rfl | rfl
   · simp [ev, f1]
     simp [o1, f1, f2]
     refine gives_put hE (ht ⟨#[118]⟩ left) (s := ⟨#[114, 101, 103, 105, 111, 110, 32]⟩ ++ ⟨#[118]⟩) (by decide) (by omega) fun H3 h => ?_
     simp
     refine gives_next hE hN hl h (by omega) (by omega) fun r H4 h3 h4 h => ?_
     by_cases hr : r = 1
     · simp [hr]
       refine gives_put hE h (by decide) (by omega) fun H5 h => ?_
       simp
       refine gives_wait hE hN hl h (by unfold InOK; simp) (by omega) fun H6 h => ?_
       simp
       refine gives_put hE h (by decide) (by omega) fun H7 h => ?_
       simp
       refine gives_put hE h (by decide) (by omega) fun H8 h => ?_
       simp [w1]
       refine hrec h (by unfold InOK; simp) (by omega) fun H9 h => ?_
       simp
       refine gives_put hE h (by decide) (by omega) fun H10 h => ?_
       obtain ⟨a', left', b', n', o2, ht2⟩ := h.turn
       simp [o2]
       exact k _ ((ht2 ByteArray.empty left').more (by omega))
     · simp [hr]
       refine gives_put hE h (by decide) (by omega) fun H7 h => ?_
       simp
       refine gives_put hE h (by decide) (by omega) fun H8 h => ?_
       simp [w1]
       refine hrec h (by unfold InOK; simp) (by omega) fun H9 h => ?_
       simp
       refine gives_put hE h (by decide) (by omega) fun H10 h => ?_
       obtain ⟨a', left', b', n', o2, ht2⟩ := h.turn
       simp [o2]
       exact k _ ((ht2 ByteArray.empty left').more (by omega))
   · simp [ev]
     refine gives_put hE h (by decide) (by omega) fun H3 h => ?_
     simp
     exact k _ (h.more (by omega))
   · simp [ev]
     refine gives_put hE h (by decide) (by omega) fun H3 h => ?_
     simp
     exact k _ (h.more (by omega))
 · have ev := e2 1 ⟨#[119]⟩ (.inr ⟨rfl, rfl⟩)
   rcases hin with rfl | rfl | rfl
   · simp [ev, f2]
     simp [o1, f1, f2]
     refine gives_put hE (ht ⟨#[119]⟩ left) (s := ⟨#[114, 101, 103, 105, 111, 110, 32]⟩ ++ ⟨#[119]⟩) (by decide) (by omega) fun H3 h => ?_
     simp
     refine gives_next hE hN hl h (by omega) (by omega) fun r H4 h3 h4 h => ?_
     by_cases hr : r = 1
     · simp [hr]
       refine gives_put hE h (by decide) (by omega) fun H5 h => ?_
       simp
       refine gives_wait hE hN hl h (by unfold InOK; simp) (by omega) fun H6 h => ?_
       simp
       refine gives_put hE h (by decide) (by omega) fun H7 h => ?_
       simp
       refine gives_put hE h (by decide) (by omega) fun H8 h => ?_
       simp [w1]
       refine hrec h (by unfold InOK; simp) (by omega) fun H9 h => ?_
       simp
       refine gives_put hE h (by decide) (by omega) fun H10 h => ?_
       obtain ⟨a', left', b', n', o2, ht2⟩ := h.turn
       simp [o2]
       exact k _ ((ht2 ByteArray.empty left').more (by omega))
     · simp [hr]
       refine gives_put hE h (by decide) (by omega) fun H7 h => ?_
       simp
       refine gives_put hE h (by decide) (by omega) fun H8 h => ?_
       simp [w1]
       refine hrec h (by unfold InOK; simp) (by omega) fun H9 h => ?_
       simp
       refine gives_put hE h (by decide) (by omega) fun H10 h => ?_
       obtain ⟨a', left', b', n', o2, ht2⟩ := h.turn
       simp [o2]
       exact k _ ((ht2 ByteArray.empty left').more (by omega))
   · simp [ev]
     refine gives_put hE h (by decide) (by omega) fun H3 h => ?_
     simp
     exact k _ (h.more (by omega))
   · simp [ev]
     refine gives_put hE h (by decide) (by omega) fun H3 h => ?_
     simp
     exact k _ (h.more (by omega))
end
def SJ0 (H0 : Heap) (mid : Nat) (nv : Value) (N : List Int) (lo hi : Nat) (p : Int) (inn : ByteArray) (d : Nat) (t : List Value) (K : Heap) : Prop :=
 t.length = 198 ∧ rd t 0 = .pointer (some ⟨mid, 0, none⟩) ∧ rd t 1 = .int .i64 (d : Int) ∧ MKx H0 K mid nv N lo hi p inn
def SJ1 (H0 : Heap) (mid : Nat) (nv : Value) (N : List Int) (lo hi : Nat) (p : Int) (inn : ByteArray) (d : Nat) (t : List Value) (K : Heap) : Prop :=
 t.length = 198 ∧ rd t 0 = .pointer (some ⟨mid, 0, none⟩) ∧ rd t 1 = .int .i64 (d : Int) ∧ (∃ r : Int, rd t 4 = .int .i64 r ∧ 0 ≤ r ∧ r < 20) ∧ MKx H0 K mid nv N lo hi p inn
def SJ2 (H0 : Heap) (mid : Nat) (nv : Value) (N : List Int) (lo hi : Nat) (p : Int) (inn : ByteArray) (d : Nat) (t : List Value) (K : Heap) : Prop :=
 t.length = 198 ∧ rd t 0 = .pointer (some ⟨mid, 0, none⟩) ∧ rd t 1 = .int .i64 (d : Int) ∧ (∃ r : Int, rd t 4 = .int .i64 r ∧ 0 ≤ r ∧ r < 20 ∧ (r = 2 ∨ r = 3 ∨ r = 5 ∨ 14 ≤ r → 1 ≤ d)) ∧ MKx H0 K mid nv N lo hi p inn
section
variable {E : Hooks} (hE : Plain E) {H0 : Heap} {mid : Nat} {nv : Value} {N : List Int} (hN : SL H0 nv N) (hl : N.length ≤ 100000)
include hE hN hl
theorem c_mstmt (args : List Value) (H : Heap) : (run Tryz.prog E).call 66 args H = callB Tryz.prog E Tryz.f66 args H := call_B Tryz.func66 rfl (by decide +kernel) (hE.no _ rfl rfl) args H
theorem stmt_of {p : Int} (hp0 : 0 ≤ p) (hp3 : p ≤ 3) {d : Nat} (hd : d ≤ 3) (hrec : ∀ e, d = e + 1 → StmtOK E H0 mid nv N p 31 e (bS e)) : StmtOK E H0 mid nv N p 66 d (bT d) := by
 intro H lo hi inn Q h hin hb k
 have hbT : 3 * bF + bC 1 + bE 2 + 2000 ≤ bT d := by
  cases d with
  | zero => exact Nat.le_refl _
  | succ d =>
   show _ ≤ 2 * (3 * (bT d + 40) + 40) + 3 * bF + bC 1 + bE 2 + 2000
   omega
 have hb1 : bE 1 ≤ bE 2 := by decide
 have c1 : (⟨#[112]⟩ : ByteArray).size = 1 := rfl
 have c2 : (⟨#[40]⟩ : ByteArray).size = 1 := rfl
 rw [c_mstmt hE hN hl, callB, bodyOf]
 simp only [Tryz.f66, gives_body]
 rw [code_seq, ends_then]
 refine ends_cut (SJ0 H0 mid nv N lo hi p inn d) ?_ ?_
 · obtain ⟨a, left, b, n, o1, ht⟩ := h.turn
   simp [o1, len_Bs]
   exact ⟨by simp [len_Bs], by simp [len_Bs], by simp [len_Bs], ht inn _⟩
 clear h
 rintro t K ⟨ht, u0, u1, h⟩
 rw [code_seq, ends_then]
 refine ends_cut (SJ1 H0 mid nv N lo hi p inn d) ?_ ?_
 · simp [ht, u0]
   refine gives_next hE hN hl h (by omega) (by omega) fun r H1 r1 r3 h => ?_
   simp [ht]
   exact ⟨by simp [ht], by simp [ht, u0], by simp [ht, u1], ⟨r, by simp [ht], r1, r3⟩, h⟩
 clear u0 u1 ht h
 rintro t K ⟨ht, u0, u1, ⟨r, u4, r1, r3⟩, h⟩
 rw [code_seq, ends_then]
 refine ends_cut (SJ2 H0 mid nv N lo hi p inn d) ?_ ?_
 · obtain ⟨a, left, b, n, o1⟩ := h.row
   rcases Nat.eq_zero_or_pos d with rfl | hd0
   · rcases (show r = 0 ∨ r = 1 ∨ r = 2 ∨ r = 3 ∨ r = 4 ∨ r = 5 ∨ r = 6 ∨ r = 7 ∨ r = 8 ∨ r = 9 ∨ r = 10 ∨ r = 11 ∨ r = 12 ∨ r = 13 ∨ r = 14 ∨ r = 15 ∨ r = 16 ∨ r = 17 ∨ r = 18 ∨ r = 19 by omega) with rfl | rfl | rfl | rfl | rfl | rfl | rfl | rfl | rfl | rfl | rfl | rfl | rfl | rfl | rfl | rfl | rfl | rfl | rfl | rfl
     · simp [ht, u0, u1, u4]
       exact ⟨by simp [ht], by simp [ht, u0], by simp [ht, u1], ⟨0, by simp [ht, u4], by omega, by omega, by omega⟩, h⟩
     · simp [ht, u0, u1, u4]
       exact ⟨by simp [ht], by simp [ht, u0], by simp [ht, u1], ⟨1, by simp [ht, u4], by omega, by omega, by omega⟩, h⟩
     · simp [ht, u0, u1, u4]
       exact ⟨by simp [ht], by simp [ht, u0], by simp [ht, u1], ⟨12, by simp [ht], by omega, by omega, by omega⟩, h⟩
     · simp [ht, u0, u1, u4]
       exact ⟨by simp [ht], by simp [ht, u0], by simp [ht, u1], ⟨12, by simp [ht], by omega, by omega, by omega⟩, h⟩
     · simp [ht, u0, u1, u4]
       exact ⟨by simp [ht], by simp [ht, u0], by simp [ht, u1], ⟨4, by simp [ht, u4], by omega, by omega, by omega⟩, h⟩
     · simp [ht, u0, u1, u4]
       exact ⟨by simp [ht], by simp [ht, u0], by simp [ht, u1], ⟨12, by simp [ht], by omega, by omega, by omega⟩, h⟩
     · simp [ht, u0, u1, u4]
       exact ⟨by simp [ht], by simp [ht, u0], by simp [ht, u1], ⟨6, by simp [ht, u4], by omega, by omega, by omega⟩, h⟩
     · simp [ht, u0, u1, u4]
       exact ⟨by simp [ht], by simp [ht, u0], by simp [ht, u1], ⟨7, by simp [ht, u4], by omega, by omega, by omega⟩, h⟩
     · simp [ht, u0, u1, u4]
       exact ⟨by simp [ht], by simp [ht, u0], by simp [ht, u1], ⟨8, by simp [ht, u4], by omega, by omega, by omega⟩, h⟩
     · simp [ht, u0, u1, u4]
       exact ⟨by simp [ht], by simp [ht, u0], by simp [ht, u1], ⟨9, by simp [ht, u4], by omega, by omega, by omega⟩, h⟩
     · simp [ht, u0, u1, u4]
       exact ⟨by simp [ht], by simp [ht, u0], by simp [ht, u1], ⟨10, by simp [ht, u4], by omega, by omega, by omega⟩, h⟩
     · simp [ht, u0, u1, u4]
       exact ⟨by simp [ht], by simp [ht, u0], by simp [ht, u1], ⟨11, by simp [ht, u4], by omega, by omega, by omega⟩, h⟩
     · simp [ht, u0, u1, u4]
       exact ⟨by simp [ht], by simp [ht, u0], by simp [ht, u1], ⟨12, by simp [ht, u4], by omega, by omega, by omega⟩, h⟩
     · simp [ht, u0, u1, u4]
       exact ⟨by simp [ht], by simp [ht, u0], by simp [ht, u1], ⟨13, by simp [ht, u4], by omega, by omega, by omega⟩, h⟩
     · simp [ht, u0, u1, u4]
       exact ⟨by simp [ht], by simp [ht, u0], by simp [ht, u1], ⟨12, by simp [ht], by omega, by omega, by omega⟩, h⟩
     · simp [ht, u0, u1, u4]
       exact ⟨by simp [ht], by simp [ht, u0], by simp [ht, u1], ⟨12, by simp [ht], by omega, by omega, by omega⟩, h⟩
     · simp [ht, u0, u1, u4]
       exact ⟨by simp [ht], by simp [ht, u0], by simp [ht, u1], ⟨12, by simp [ht], by omega, by omega, by omega⟩, h⟩
     · simp [ht, u0, u1, u4]
       exact ⟨by simp [ht], by simp [ht, u0], by simp [ht, u1], ⟨12, by simp [ht], by omega, by omega, by omega⟩, h⟩
     · simp [ht, u0, u1, u4]
       exact ⟨by simp [ht], by simp [ht, u0], by simp [ht, u1], ⟨12, by simp [ht], by omega, by omega, by omega⟩, h⟩
     · simp [ht, u0, u1, u4]
       exact ⟨by simp [ht], by simp [ht, u0], by simp [ht, u1], ⟨12, by simp [ht], by omega, by omega, by omega⟩, h⟩
   · have hd1 : ¬ d = 0 := by omega
     by_cases hlf : left < 0
     · rcases (show r = 0 ∨ r = 1 ∨ r = 2 ∨ r = 3 ∨ r = 4 ∨ r = 5 ∨ r = 6 ∨ r = 7 ∨ r = 8 ∨ r = 9 ∨ r = 10 ∨ r = 11 ∨ r = 12 ∨ r = 13 ∨ r = 14 ∨ r = 15 ∨ r = 16 ∨ r = 17 ∨ r = 18 ∨ r = 19 by omega) with rfl | rfl | rfl | rfl | rfl | rfl | rfl | rfl | rfl | rfl | rfl | rfl | rfl | rfl | rfl | rfl | rfl | rfl | rfl | rfl
       · simp [ht, u0, u1, u4, o1, hd1, hlf]
         exact ⟨by simp [ht], by simp [ht, u0], by simp [ht, u1], ⟨0, by simp [ht, u4], by omega, by omega, by omega⟩, h⟩
       · simp [ht, u0, u1, u4, o1, hd1, hlf]
         exact ⟨by simp [ht], by simp [ht, u0], by simp [ht, u1], ⟨1, by simp [ht, u4], by omega, by omega, by omega⟩, h⟩
       · simp [ht, u0, u1, u4, o1, hd1, hlf]
         exact ⟨by simp [ht], by simp [ht, u0], by simp [ht, u1], ⟨12, by simp [ht], by omega, by omega, by omega⟩, h⟩
       · simp [ht, u0, u1, u4, o1, hd1, hlf]
         exact ⟨by simp [ht], by simp [ht, u0], by simp [ht, u1], ⟨12, by simp [ht], by omega, by omega, by omega⟩, h⟩
       · simp [ht, u0, u1, u4, o1, hd1, hlf]
         exact ⟨by simp [ht], by simp [ht, u0], by simp [ht, u1], ⟨4, by simp [ht, u4], by omega, by omega, by omega⟩, h⟩
       · simp [ht, u0, u1, u4, o1, hd1, hlf]
         exact ⟨by simp [ht], by simp [ht, u0], by simp [ht, u1], ⟨12, by simp [ht], by omega, by omega, by omega⟩, h⟩
       · simp [ht, u0, u1, u4, o1, hd1, hlf]
         exact ⟨by simp [ht], by simp [ht, u0], by simp [ht, u1], ⟨6, by simp [ht, u4], by omega, by omega, by omega⟩, h⟩
       · simp [ht, u0, u1, u4, o1, hd1, hlf]
         exact ⟨by simp [ht], by simp [ht, u0], by simp [ht, u1], ⟨7, by simp [ht, u4], by omega, by omega, by omega⟩, h⟩
       · simp [ht, u0, u1, u4, o1, hd1, hlf]
         exact ⟨by simp [ht], by simp [ht, u0], by simp [ht, u1], ⟨8, by simp [ht, u4], by omega, by omega, by omega⟩, h⟩
       · simp [ht, u0, u1, u4, o1, hd1, hlf]
         exact ⟨by simp [ht], by simp [ht, u0], by simp [ht, u1], ⟨9, by simp [ht, u4], by omega, by omega, by omega⟩, h⟩
       · simp [ht, u0, u1, u4, o1, hd1, hlf]
         exact ⟨by simp [ht], by simp [ht, u0], by simp [ht, u1], ⟨10, by simp [ht, u4], by omega, by omega, by omega⟩, h⟩
       · simp [ht, u0, u1, u4, o1, hd1, hlf]
         exact ⟨by simp [ht], by simp [ht, u0], by simp [ht, u1], ⟨11, by simp [ht, u4], by omega, by omega, by omega⟩, h⟩
       · simp [ht, u0, u1, u4, o1, hd1, hlf]
         exact ⟨by simp [ht], by simp [ht, u0], by simp [ht, u1], ⟨12, by simp [ht, u4], by omega, by omega, by omega⟩, h⟩
       · simp [ht, u0, u1, u4, o1, hd1, hlf]
         exact ⟨by simp [ht], by simp [ht, u0], by simp [ht, u1], ⟨13, by simp [ht, u4], by omega, by omega, by omega⟩, h⟩
       · simp [ht, u0, u1, u4, o1, hd1, hlf]
         exact ⟨by simp [ht], by simp [ht, u0], by simp [ht, u1], ⟨12, by simp [ht], by omega, by omega, by omega⟩, h⟩
       · simp [ht, u0, u1, u4, o1, hd1, hlf]
         exact ⟨by simp [ht], by simp [ht, u0], by simp [ht, u1], ⟨12, by simp [ht], by omega, by omega, by omega⟩, h⟩
       · simp [ht, u0, u1, u4, o1, hd1, hlf]
         exact ⟨by simp [ht], by simp [ht, u0], by simp [ht, u1], ⟨12, by simp [ht], by omega, by omega, by omega⟩, h⟩
       · simp [ht, u0, u1, u4, o1, hd1, hlf]
         exact ⟨by simp [ht], by simp [ht, u0], by simp [ht, u1], ⟨12, by simp [ht], by omega, by omega, by omega⟩, h⟩
       · simp [ht, u0, u1, u4, o1, hd1, hlf]
         exact ⟨by simp [ht], by simp [ht, u0], by simp [ht, u1], ⟨12, by simp [ht], by omega, by omega, by omega⟩, h⟩
       · simp [ht, u0, u1, u4, o1, hd1, hlf]
         exact ⟨by simp [ht], by simp [ht, u0], by simp [ht, u1], ⟨12, by simp [ht], by omega, by omega, by omega⟩, h⟩
     · simp [ht, u0, u1, u4, o1, hd1, hlf]
       exact ⟨by simp [ht], by simp [ht, u0], by simp [ht, u1], ⟨r, by simp [ht, u4], r1, r3, fun _ => hd0⟩, h⟩
 clear u0 u1 u4 ht h r1 r3
 clear r
 rintro t K ⟨ht, u0, u1, ⟨r, u4, r1, r3, hk⟩, h⟩
 rcases (show r = 0 ∨ r = 1 ∨ r = 2 ∨ r = 3 ∨ r = 4 ∨ r = 5 ∨ r = 6 ∨ r = 7 ∨ r = 8 ∨ r = 9 ∨ r = 10 ∨ r = 11 ∨ r = 12 ∨ r = 13 ∨ r = 14 ∨ r = 15 ∨ r = 16 ∨ r = 17 ∨ r = 18 ∨ r = 19 by omega) with rfl | rfl | rfl | rfl | rfl | rfl | rfl | rfl | rfl | rfl | rfl | rfl | rfl | rfl | rfl | rfl | rfl | rfl | rfl | rfl
 · simp [ht, u0, u4]
   refine gives_put hE h (by decide) (by omega) fun _ h => ?_
   simp [ht, u0]
   exact k _ (h.more (by omega))
 · simp [ht, u0, u4]
   refine gives_put hE h (by decide) (by omega) fun _ h => ?_
   simp [ht, u0]
   refine gives_expr hE hN hl 2 (by omega) h hin rfl (by omega) fun _ h => ?_
   simp [ht, u0]
   exact k _ (h.more (by omega))
 · obtain ⟨e, rfl⟩ : ∃ e, d = e + 1 := ⟨d - 1, by have := hk (by omega); omega⟩
   change hi + (2 * (3 * (bT e + 40) + 40) + 3 * bF + bC 1 + bE 2 + 2000) ≤ 800000000 at hb
   change ∀ H', MKx H0 H' mid nv N lo (hi + (2 * (3 * (bT e + 40) + 40) + 3 * bF + bC 1 + bE 2 + 2000)) p inn → Q (.val (.tuple #[])) H' at k
   have hbS : bS e = 3 * (bT e + 40) + 40 := rfl
   have w1 : IntKind.i64.wrap (e : Int) = e := wrap64 _ (by omega) (by omega)
   simp only [Int.natCast_add, Int.natCast_one, Int.natCast_succ] at u1
   simp [ht, u0, u4]
   refine gives_put hE h (by decide) (by omega) fun _ h => ?_
   simp [ht, u0]
   refine gives_cond hE hN hl 1 (by omega) h hin rfl (by omega) fun _ h => ?_
   simp [ht, u0]
   refine gives_put hE h (by decide) (by omega) fun _ h => ?_
   simp [ht, u0, u1, w1]
   refine hrec e rfl h hin (by omega) fun _ h => ?_
   simp [ht, u0]
   refine gives_next hE hN hl h (by omega) (by omega) fun r _ r1 r2 h => ?_
   by_cases hr : r = 1
   · simp [ht, u0, hr]
     refine gives_put hE h (by decide) (by omega) fun _ h => ?_
     simp [ht, u0, u1, w1]
     refine hrec e rfl h hin (by omega) fun _ h => ?_
     simp [ht, u0]
     refine gives_put hE h (by decide) (by omega) fun _ h => ?_
     simp [ht, u0]
     exact k _ (h.more (by omega))
   · simp [ht, u0, hr]
     refine gives_put hE h (by decide) (by omega) fun _ h => ?_
     simp [ht, u0]
     exact k _ (h.more (by omega))
 · obtain ⟨e, rfl⟩ : ∃ e, d = e + 1 := ⟨d - 1, by have := hk (by omega); omega⟩
   change hi + (2 * (3 * (bT e + 40) + 40) + 3 * bF + bC 1 + bE 2 + 2000) ≤ 800000000 at hb
   change ∀ H', MKx H0 H' mid nv N lo (hi + (2 * (3 * (bT e + 40) + 40) + 3 * bF + bC 1 + bE 2 + 2000)) p inn → Q (.val (.tuple #[])) H' at k
   have hbS : bS e = 3 * (bT e + 40) + 40 := rfl
   have w1 : IntKind.i64.wrap (e : Int) = e := wrap64 _ (by omega) (by omega)
   simp only [Int.natCast_add, Int.natCast_one, Int.natCast_succ] at u1
   simp [ht, u0, u4]
   refine gives_put hE h (by decide) (by omega) fun _ h => ?_
   simp [ht, u0]
   refine gives_num hE hN hl h (by omega) (by omega) (by omega) fun _ h => ?_
   simp [ht, u0]
   refine gives_put hE h (by decide) (by omega) fun _ h => ?_
   simp [ht, u0, u1, w1]
   refine hrec e rfl h hin (by omega) fun _ h => ?_
   simp [ht, u0]
   refine gives_put hE h (by decide) (by omega) fun _ h => ?_
   simp [ht, u0]
   exact k _ (h.more (by omega))
 · simp [ht, u0, u4]
   refine gives_put hE h (by decide) (by omega) fun _ h => ?_
   simp [ht, u0]
   refine gives_num hE hN hl h (by omega) (by omega) (by omega) fun _ h => ?_
   simp [ht, u0]
   refine gives_put hE h (by decide) (by omega) fun _ h => ?_
   simp [ht, u0]
   refine gives_expr hE hN hl 1 (by omega) h hin rfl (by omega) fun _ h => ?_
   simp [ht, u0]
   exact k _ (h.more (by omega))
 · obtain ⟨a, left, b, n, o1⟩ := h.row
   by_cases hp : p = 3
   · simp [ht, u0, u4, o1, hp]
     refine gives_next hE hN hl h (by omega) (by omega) fun r _ r1 r2 h => ?_
     by_cases hr : 0 < r
     · simp [ht, u0, hr]
       refine gives_put hE h (by decide) (by omega) fun _ h => ?_
       simp [ht, u0]
       exact k _ (h.more (by omega))
     · simp [ht, u0, hr]
       obtain ⟨r, H2, e1, r1, r3, h⟩ := callee_ok hE hN hl h hp0 hp3
       obtain ⟨s, hs, e2⟩ := itoa_ok hE r (by omega) (by omega) H2
       have f1 := fun a b => bin_cat2 a b ⟨#[112]⟩ s (by rw [c1]; omega)
       have f2 := fun a b => bin_cat2 a b (⟨#[112]⟩ ++ s) ⟨#[40]⟩ (by rw [ByteArray.size_append, c1, c2]; omega)
       simp [ht, u0, e1, e2, f1, f2]
       refine gives_put hE h (s := ⟨#[112]⟩ ++ s ++ ⟨#[40]⟩) (by simp only [ByteArray.size_append, c1, c2]; omega) (by omega) fun _ h => ?_
       simp [ht, u0]
       refine gives_expr hE hN hl 1 (by omega) h hin rfl (by omega) fun _ h => ?_
       simp [ht, u0]
       refine gives_put hE h (by decide) (by omega) fun _ h => ?_
       simp [ht, u0]
       exact k _ (h.more (by omega))
   · simp [ht, u0, u4, o1, hp]
     obtain ⟨r, H2, e1, r1, r3, h⟩ := callee_ok hE hN hl h hp0 hp3
     obtain ⟨s, hs, e2⟩ := itoa_ok hE r (by omega) (by omega) H2
     have f1 := fun a b => bin_cat2 a b ⟨#[112]⟩ s (by rw [c1]; omega)
     have f2 := fun a b => bin_cat2 a b (⟨#[112]⟩ ++ s) ⟨#[40]⟩ (by rw [ByteArray.size_append, c1, c2]; omega)
     simp [ht, u0, e1, e2, f1, f2]
     refine gives_put hE h (s := ⟨#[112]⟩ ++ s ++ ⟨#[40]⟩) (by simp only [ByteArray.size_append, c1, c2]; omega) (by omega) fun _ h => ?_
     simp [ht, u0]
     refine gives_expr hE hN hl 1 (by omega) h hin rfl (by omega) fun _ h => ?_
     simp [ht, u0]
     refine gives_put hE h (by decide) (by omega) fun _ h => ?_
     simp [ht, u0]
     exact k _ (h.more (by omega))
 · simp [ht, u0, u4]
   refine gives_put hE h (by decide) (by omega) fun _ h => ?_
   simp [ht, u0]
   exact k _ (h.more (by omega))
 · simp [ht, u0, u4]
   refine gives_put hE h (by decide) (by omega) fun _ h => ?_
   simp [ht, u0]
   exact k _ (h.more (by omega))
 · simp [ht, u0, u4]
   refine gives_put hE h (by decide) (by omega) fun _ h => ?_
   simp [ht, u0]
   refine gives_items hE hN hl h (by omega) fun _ h => ?_
   simp [ht, u0]
   exact k _ (h.more (by omega))
 · simp [ht, u0, u4]
   refine gives_put hE h (by decide) (by omega) fun _ h => ?_
   simp [ht, u0]
   refine gives_items hE hN hl h (by omega) fun _ h => ?_
   simp [ht, u0]
   exact k _ (h.more (by omega))
 · simp [ht, u0, u4]
   refine gives_put hE h (by decide) (by omega) fun _ h => ?_
   simp [ht, u0]
   refine gives_items hE hN hl h (by omega) fun _ h => ?_
   simp [ht, u0]
   exact k _ (h.more (by omega))
 · simp [ht, u0, u4]
   refine gives_put hE h (by decide) (by omega) fun _ h => ?_
   simp [ht, u0]
   refine gives_next hE hN hl h (by omega) (by omega) fun r _ r1 r2 h => ?_
   simp [ht, u0]
   refine gives_idx2 (by decide) (by decide) (by omega) (by omega) fun s hs => ?_
   simp [ht, u0]
   refine gives_put hE h hs (by omega) fun _ h => ?_
   simp [ht, u0]
   exact k _ (h.more (by omega))
 · simp [ht, u0, u4]
   refine gives_put hE h (by decide) (by omega) fun _ h => ?_
   simp [ht, u0]
   refine gives_expr hE hN hl 2 (by omega) h hin rfl (by omega) fun _ h => ?_
   simp [ht, u0]
   exact k _ (h.more (by omega))
 · simp [ht, u0, u4]
   refine gives_put hE h (by decide) (by omega) fun _ h => ?_
   simp [ht, u0]
   refine gives_expr hE hN hl 2 (by omega) h hin rfl (by omega) fun _ h => ?_
   simp [ht, u0]
   exact k _ (h.more (by omega))
 · obtain ⟨e, rfl⟩ : ∃ e, d = e + 1 := ⟨d - 1, by have := hk (by omega); omega⟩
   change hi + (2 * (3 * (bT e + 40) + 40) + 3 * bF + bC 1 + bE 2 + 2000) ≤ 800000000 at hb
   change ∀ H', MKx H0 H' mid nv N lo (hi + (2 * (3 * (bT e + 40) + 40) + 3 * bF + bC 1 + bE 2 + 2000)) p inn → Q (.val (.tuple #[])) H' at k
   have hbS : bS e = 3 * (bT e + 40) + 40 := rfl
   have w1 : IntKind.i64.wrap (e : Int) = e := wrap64 _ (by omega) (by omega)
   simp only [Int.natCast_add, Int.natCast_one, Int.natCast_succ] at u1
   simp [ht, u0, u1, u4]
   refine region_of hE hN hl (by omega) (hrec e rfl) h hin (by omega) fun _ h => ?_
   simp [ht, u0]
   exact k _ (h.more (by omega))
 · obtain ⟨e, rfl⟩ : ∃ e, d = e + 1 := ⟨d - 1, by have := hk (by omega); omega⟩
   change hi + (2 * (3 * (bT e + 40) + 40) + 3 * bF + bC 1 + bE 2 + 2000) ≤ 800000000 at hb
   change ∀ H', MKx H0 H' mid nv N lo (hi + (2 * (3 * (bT e + 40) + 40) + 3 * bF + bC 1 + bE 2 + 2000)) p inn → Q (.val (.tuple #[])) H' at k
   have hbS : bS e = 3 * (bT e + 40) + 40 := rfl
   have w1 : IntKind.i64.wrap (e : Int) = e := wrap64 _ (by omega) (by omega)
   simp only [Int.natCast_add, Int.natCast_one, Int.natCast_succ] at u1
   simp [ht, u0, u1, u4]
   refine region_of hE hN hl (by omega) (hrec e rfl) h hin (by omega) fun _ h => ?_
   simp [ht, u0]
   exact k _ (h.more (by omega))
 · obtain ⟨a, left, b, n, o1⟩ := h.row
   by_cases hp : p = 3
   · rcases hin with rfl | rfl | rfl
     all_goals
      simp [ht, u0, u4, o1, hp]
      refine gives_put hE h (by decide) (by omega) fun _ h => ?_
      simp [ht, u0]
      exact k _ (h.more (by omega))
   · rcases hin with rfl | rfl | rfl
     · simp [ht, u0, u4, o1, hp]
       refine gives_fork hE hN hl h (by unfold InOK; simp) hp0 hp3 (by omega) fun _ h => ?_
       simp
       exact k _ (h.more (by omega))
     · simp [ht, u0, u4, o1, hp]
       refine gives_put hE h (by decide) (by omega) fun _ h => ?_
       simp [ht, u0]
       exact k _ (h.more (by omega))
     · simp [ht, u0, u4, o1, hp]
       refine gives_put hE h (by decide) (by omega) fun _ h => ?_
       simp [ht, u0]
       exact k _ (h.more (by omega))
 · obtain ⟨a, left, b, n, o1⟩ := h.row
   by_cases hp : p = 3
   · rcases hin with rfl | rfl | rfl
     all_goals
      simp [ht, u0, u4, o1, hp]
      refine gives_put hE h (by decide) (by omega) fun _ h => ?_
      simp [ht, u0]
      exact k _ (h.more (by omega))
   · rcases hin with rfl | rfl | rfl
     · simp [ht, u0, u4, o1, hp]
       refine gives_fork hE hN hl h (by unfold InOK; simp) hp0 hp3 (by omega) fun _ h => ?_
       simp
       exact k _ (h.more (by omega))
     · simp [ht, u0, u4, o1, hp]
       refine gives_put hE h (by decide) (by omega) fun _ h => ?_
       simp [ht, u0]
       exact k _ (h.more (by omega))
     · simp [ht, u0, u4, o1, hp]
       refine gives_put hE h (by decide) (by omega) fun _ h => ?_
       simp [ht, u0]
       exact k _ (h.more (by omega))
 · obtain ⟨e, rfl⟩ : ∃ e, d = e + 1 := ⟨d - 1, by have := hk (by omega); omega⟩
   change hi + (2 * (3 * (bT e + 40) + 40) + 3 * bF + bC 1 + bE 2 + 2000) ≤ 800000000 at hb
   change ∀ H', MKx H0 H' mid nv N lo (hi + (2 * (3 * (bT e + 40) + 40) + 3 * bF + bC 1 + bE 2 + 2000)) p inn → Q (.val (.tuple #[])) H' at k
   have hbS : bS e = 3 * (bT e + 40) + 40 := rfl
   have w1 : IntKind.i64.wrap (e : Int) = e := wrap64 _ (by omega) (by omega)
   simp only [Int.natCast_add, Int.natCast_one, Int.natCast_succ] at u1
   simp [ht, u0, u4]
   refine gives_put hE h (by decide) (by omega) fun _ h => ?_
   simp [ht, u0]
   refine gives_items hE hN hl h (by omega) fun _ h => ?_
   simp [ht, u0]
   refine gives_put hE h (by decide) (by omega) fun _ h => ?_
   simp [ht, u0, u1, w1]
   refine hrec e rfl h hin (by omega) fun _ h => ?_
   simp [ht, u0]
   refine gives_put hE h (by decide) (by omega) fun _ h => ?_
   simp [ht, u0]
   exact k _ (h.more (by omega))
 · obtain ⟨a, left, b, n, o1⟩ := h.row
   by_cases hp : p = 3
   · simp [ht, u0, u4, o1, hp]
     refine gives_next hE hN hl h (by omega) (by omega) fun r _ r1 r2 h => ?_
     by_cases hr : 0 < r
     · simp [ht, u0, hr]
       refine gives_put hE h (by decide) (by omega) fun _ h => ?_
       simp [ht, u0]
       exact k _ (h.more (by omega))
     · simp [ht, u0, hr]
       obtain ⟨r, H2, e1, r1, r3, h⟩ := callee_ok hE hN hl h hp0 hp3
       obtain ⟨s, hs, e2⟩ := itoa_ok hE r (by omega) (by omega) H2
       have f1 := fun a b => bin_cat2 a b ⟨#[112]⟩ s (by rw [c1]; omega)
       have f2 := fun a b => bin_cat2 a b (⟨#[112]⟩ ++ s) ⟨#[40]⟩ (by rw [ByteArray.size_append, c1, c2]; omega)
       simp [ht, u0, e1, e2, f1, f2]
       refine gives_put hE h (s := ⟨#[112]⟩ ++ s ++ ⟨#[40]⟩) (by simp only [ByteArray.size_append, c1, c2]; omega) (by omega) fun _ h => ?_
       simp [ht, u0]
       refine gives_expr hE hN hl 1 (by omega) h hin rfl (by omega) fun _ h => ?_
       simp [ht, u0]
       refine gives_put hE h (by decide) (by omega) fun _ h => ?_
       simp [ht, u0]
       exact k _ (h.more (by omega))
   · simp [ht, u0, u4, o1, hp]
     obtain ⟨r, H2, e1, r1, r3, h⟩ := callee_ok hE hN hl h hp0 hp3
     obtain ⟨s, hs, e2⟩ := itoa_ok hE r (by omega) (by omega) H2
     have f1 := fun a b => bin_cat2 a b ⟨#[112]⟩ s (by rw [c1]; omega)
     have f2 := fun a b => bin_cat2 a b (⟨#[112]⟩ ++ s) ⟨#[40]⟩ (by rw [ByteArray.size_append, c1, c2]; omega)
     simp [ht, u0, e1, e2, f1, f2]
     refine gives_put hE h (s := ⟨#[112]⟩ ++ s ++ ⟨#[40]⟩) (by simp only [ByteArray.size_append, c1, c2]; omega) (by omega) fun _ h => ?_
     simp [ht, u0]
     refine gives_expr hE hN hl 1 (by omega) h hin rfl (by omega) fun _ h => ?_
     simp [ht, u0]
     refine gives_put hE h (by decide) (by omega) fun _ h => ?_
     simp [ht, u0]
     exact k _ (h.more (by omega))
end
theorem MKx.turn2 {H0 H : Heap} {mid : Nat} {nv : Value} {N : List Int} {lo hi : Nat} {p : Int} {inn : ByteArray} (h : MKx H0 H mid nv N lo hi p inn) : ∃ (a : Nat) (left : Int) (b : Option Addr) (n : Nat), H.get mid = .row true 0 1 [nv, .int .i64 a, .slice b n n, .int .i64 p, .string inn, .int .i64 left] ∧
  ∀ (p' : Int), MKx H0 (H.set mid (.row true 0 1 [nv, .int .i64 a, .slice b n n, .int .i64 p', .string inn, .int .i64 left])) mid nv N lo hi p' inn := by
 obtain ⟨a, left, ov, out, hm⟩ := h
 obtain ⟨b, rfl⟩ := hm.go.slice
 exact ⟨a, left, b, out.length, hm.obj, fun p' => ⟨a, left, _, out, MK.turn hm hm.ha p' inn left⟩⟩
def bX : Nat := 240 + bS 2
def TxI (H0 : Heap) (mid : Nat) (nv : Value) (N : List Int) (lo hi : Nat) (m : Nat) (t : List Value) (K : Heap) : Prop :=
 ∃ i : Nat, i ≤ 3 ∧ m = 3 - i ∧ rd t 4 = .int .i64 ((i : Int) + 1) ∧ ∃ p, MKx H0 K mid nv N lo (hi + i * bX) p ByteArray.empty
section
variable {E : Hooks} (hE : Plain E) {H0 : Heap} {mid : Nat} {nv : Value} {N : List Int} (hN : SL H0 nv N) (hl : N.length ≤ 100000)
include hE
theorem gives_putB {H : Heap} {lo hi : Nat} {p : Int} {inn : ByteArray} (h : MKx H0 H mid nv N lo hi p inn) (B : Nat) {s : ByteArray} {Q : Out → Heap → Prop} (hs : s.size ≤ B) (hb : hi + B ≤ 900000000)
  (k : ∀ H', MKx H0 H' mid nv N lo (hi + B) p inn → Q (.val (.tuple #[])) H') : Gives ((run Tryz.prog E).call 27 [.pointer (some ⟨mid, 0, none⟩), .string s] H) Q := by
 obtain ⟨H', e, h'⟩ := put_ok hE h s (by omega)
 exact ⟨_, _, e, k H' ((h'.low (Nat.le_add_right _ _)).more (by omega))⟩
theorem gives_put1 {H : Heap} {lo hi : Nat} {p : Int} {inn : ByteArray} (h : MKx H0 H mid nv N lo hi p inn) (B : Nat) {s : ByteArray} {Q : Out → Heap → Prop} (h1 : 1 ≤ s.size) (hs : s.size ≤ B) (hb : hi + B ≤ 900000000)
  (k : ∀ H', MKx H0 H' mid nv N 1 (hi + B) p inn → Q (.val (.tuple #[])) H') : Gives ((run Tryz.prog E).call 27 [.pointer (some ⟨mid, 0, none⟩), .string s] H) Q := by
 obtain ⟨H', e, h'⟩ := put_ok hE h s (by omega)
 exact ⟨_, _, e, k H' ((h'.low (by omega)).more (by omega))⟩
include hN hl
theorem stmts_ok {p : Int} (hp0 : 0 ≤ p) (hp3 : p ≤ 3) : ∀ d : Nat, d ≤ 3 → StmtOK E H0 mid nv N p 31 d (bS d) := by
 intro d
 induction d with
 | zero => exact fun hd => stmts_of hE hN hl (stmt_of hE hN hl hp0 hp3 hd (fun e he => by cases he))
 | succ d ih => exact fun hd => stmts_of hE hN hl (stmt_of hE hN hl hp0 hp3 hd (fun e he => by cases he; exact ih (by omega)))
theorem gives_stmts (d : Nat) (hd : d ≤ 3) {H : Heap} {lo hi : Nat} {p : Int} {inn : ByteArray} (h : MKx H0 H mid nv N lo hi p inn) (hin : InOK inn) (hp0 : 0 ≤ p) (hp3 : p ≤ 3) {z : Int} {Q : Out → Heap → Prop} (hz : z = d) (hb : hi + bS d ≤ 800000000)
  (k : ∀ H', MKx H0 H' mid nv N lo (hi + bS d) p inn → Q (.val (.tuple #[])) H') : Gives ((run Tryz.prog E).call 31 [.pointer (some ⟨mid, 0, none⟩), .int .i64 z] H) Q := by
 subst hz
 exact stmts_ok hE hN hl hp0 hp3 d hd h hin hb k
end
section
variable {E : Hooks} (hE : Plain E)
include hE
theorem c_mtext (args : List Value) (H : Heap) : (run Tryz.prog E).call 6 args H = callB Tryz.prog E Tryz.f6 args H := call_B Tryz.func6 rfl (by decide +kernel) (hE.no _ rfl rfl) args H
theorem text_ok {H : Heap} {nv : Value} {N : List Int} (hN : SL H nv N) (hl : N.length ≤ 100000) : ∃ (b : Option Addr) (out : List UInt8) (H' : Heap), (run Tryz.prog E).call 6 [nv] H = some (.val (.slice b out.length out.length), H') ∧ Same (fun _ => False) H H' ∧ OutS H' (fun i => H.n ≤ i) (.slice b out.length out.length) out ∧ 1 ≤ out.length ∧ out.length ≤ 100000000 := by
 suffices key : Gives ((run Tryz.prog E).call 6 [nv] H) fun o H' => ∃ (b : Option Addr) (out : List UInt8), o = .val (.slice b out.length out.length) ∧ Same (fun _ => False) H H' ∧ OutS H' (fun i => H.n ≤ i) (.slice b out.length out.length) out ∧ 1 ≤ out.length ∧ out.length ≤ 100000000 by
  obtain ⟨o, H', e, b, out, rfl, k⟩ := key
  exact ⟨b, out, H', e, k⟩
 obtain ⟨b0, n0, c0, rfl⟩ := hN.slice
 have hbX : bX = 240 + bS 2 := rfl
 have hS2 : bS 2 ≤ 2000000 := by decide +kernel
 have hS1 : bS 1 ≤ 1000000 := by decide +kernel
 have hF : bF ≤ 10000 := by decide +kernel
 have c1 : (⟨#[112, 114, 111, 99, 101, 100, 117, 114, 101, 32, 112]⟩ : ByteArray).size = 11 := rfl
 have c2 : (⟨#[40, 120, 41, 59, 10, 98, 101, 103, 105, 110, 32]⟩ : ByteArray).size = 11 := rfl
 have h : MKx H (H.push (.row true 0 1 [.slice b0 n0 c0, .int .i64 ((0 : Nat) : Int), .slice none 0 0, .int .i64 0, .string ByteArray.empty, .int .i64 60])) H.n (.slice b0 n0 c0) N 0 0 0 ByteArray.empty :=
  ⟨0, 60, .slice none 0 0, [], Same.push _ _ _, Nat.le_refl _, Heap.get_push_self _ _, Nat.zero_le _, .inl ⟨rfl, rfl⟩, Nat.le_refl _, Nat.le_refl _⟩
 rw [c_mtext hE, callB, bodyOf]
 simp [Tryz.f6]
 refine gives_put1 hE h 80 (by decide) (by decide) (by omega) fun _ h => ?_
 simp
 refine gives_next hE hN hl h (by omega) (by omega) fun r H2 r1 r2 h => ?_
 obtain ⟨s, hs, e⟩ := itoa_ok hE (1 + r) (by omega) (by omega) H2
 simp [wrap64 (1 + r) (by omega) (by omega), e]
 refine gives_putB hE h 80 (by omega) (by omega) fun _ h => ?_
 simp
 refine gives_putB hE h 80 (by decide) (by omega) fun _ h => ?_
 simp
 refine gives_next hE hN hl h (by omega) (by omega) fun r H2 r1 r2 h => ?_
 obtain ⟨s, hs, e⟩ := itoa_ok hE (1 + r) (by omega) (by omega) H2
 simp [wrap64 (1 + r) (by omega) (by omega), e]
 refine gives_putB hE h 80 (by omega) (by omega) fun _ h => ?_
 simp
 refine gives_putB hE h 80 (by decide) (by omega) fun _ h => ?_
 simp
 refine gives_num hE hN hl h (by omega) (by omega) (by omega) fun _ h => ?_
 simp
 refine gives_putB hE h 80 (by decide) (by omega) fun K0 h => ?_
 simp
 refine loop_mid2 (fun t K => ∃ p, MKx H K H.n (.slice b0 n0 c0) N 1 (600 + 3 * bX) p ByteArray.empty) (TxI H H.n (.slice b0 n0 c0) N 1 600) 3 ?_ ?_ ?_
 · exact ⟨0, by omega, rfl, by simp, 0, h.more (by omega)⟩
 · rintro m t K hkk ⟨i, hi', rfl, g4, p, h⟩
   have ht : t.length = 77 := hkk.1.trans (by simp [len_Bs])
   have hh := hkk.all [0, 3] (by decide +kernel)
   simp at hh
   obtain ⟨u0, u3⟩ := hh
   have him : i * bX ≤ 3 * bX := Nat.mul_le_mul_right _ hi'
   rcases Nat.lt_or_ge i 3 with hlt | hge
   · obtain ⟨a, left, b, n, o1, htn⟩ := h.turn2
     have h := htn ((i : Int) + 1)
     have w1 : IntKind.i64.wrap ((i : Int) + 1 + 1) = (i : Int) + 1 + 1 := wrap64 _ (by omega) (by omega)
     obtain ⟨s, hs, e⟩ := itoa_ok hE ((i : Int) + 1) (by omega) (by omega) (K.set H.n (.row true 0 1 [.slice b0 n0 c0, .int .i64 a, .slice b n n, .int .i64 ((i : Int) + 1), .string ByteArray.empty, .int .i64 left]))
     have f1 := fun a b => bin_cat2 a b ⟨#[112, 114, 111, 99, 101, 100, 117, 114, 101, 32, 112]⟩ s (by rw [c1]; omega)
     have f2 := fun a b => bin_cat2 a b (⟨#[112, 114, 111, 99, 101, 100, 117, 114, 101, 32, 112]⟩ ++ s) ⟨#[40, 120, 41, 59, 10, 98, 101, 103, 105, 110, 32]⟩ (by rw [ByteArray.size_append, c1, c2]; omega)
     simp [ht, u3, g4, o1, show (i : Int) + 1 ≤ 3 by omega, e, f1, f2]
     refine gives_putB hE h 80 (s := ⟨#[112, 114, 111, 99, 101, 100, 117, 114, 101, 32, 112]⟩ ++ s ++ ⟨#[40, 120, 41, 59, 10, 98, 101, 103, 105, 110, 32]⟩) (by simp only [ByteArray.size_append, c1, c2]; omega) (by omega) fun _ h => ?_
     simp [ht, u3]
     refine gives_stmts hE hN hl 2 (by omega) h (.inl rfl) (by omega) (by omega) rfl (by omega) fun _ h => ?_
     simp [ht, u3]
     refine gives_putB hE h 80 (by decide) (by omega) fun _ h => ?_
     simp [ht, g4, w1]
     exact ⟨3 - (i + 1), by omega, i + 1, by omega, rfl, by simp [ht], _, h.more (by rw [Nat.add_mul]; omega)⟩
   · simp [ht, g4, show ¬ (i : Int) + 1 ≤ 3 by omega]
     exact ⟨p, h.more (by omega)⟩
 · rintro t K hkk ⟨p, h⟩
   have ht : t.length = 77 := hkk.1.trans (by simp [len_Bs])
   have hh := hkk.all [3] (by decide +kernel)
   simp at hh
   obtain ⟨a, left, b, n, o1, htn⟩ := h.turn2
   have h := htn 0
   simp [ht, hh, o1]
   refine gives_putB hE h 80 (by decide) (by omega) fun _ h => ?_
   simp [ht, hh]
   refine gives_next hE hN hl h (by omega) (by omega) fun r H2 r1 r2 h => ?_
   obtain ⟨s, hs, e⟩ := itoa_ok hE (1 + r) (by omega) (by omega) H2
   simp [ht, hh, wrap64 (1 + r) (by omega) (by omega), e]
   refine gives_putB hE h 80 (by omega) (by omega) fun _ h => ?_
   simp [ht, hh]
   refine gives_putB hE h 80 (by decide) (by omega) fun _ h => ?_
   simp [ht, hh]
   refine gives_stmts hE hN hl 2 (by omega) h (.inl rfl) (by omega) (by omega) rfl (by omega) fun _ h => ?_
   simp [ht, hh]
   refine gives_putB hE h 80 (by decide) (by omega) fun _ h => ?_
   simp [ht, hh]
   refine gives_fork hE hN hl h (.inl rfl) (by omega) (by omega) (by omega) fun _ h => ?_
   simp [ht, hh]
   refine gives_putB hE h 80 (by decide) (by omega) fun _ h => ?_
   simp [ht, hh]
   refine gives_stmts hE hN hl 1 (by omega) h (.inl rfl) (by omega) (by omega) rfl (by omega) fun _ h => ?_
   simp [ht, hh]
   refine gives_putB hE h 80 (by decide) (by omega) fun K9 h => ?_
   obtain ⟨a9, left9, ov9, out9, hm⟩ := h
   obtain ⟨b9, rfl⟩ := hm.go.slice
   have o9 := hm.obj
   simp [ht, hh, o9]
   exact ⟨b9, out9, ⟨rfl, rfl⟩, ⟨hm.kp.n, fun i hi _ => hm.kp.get i hi (Nat.not_le.2 hi)⟩, hm.go.move (Same.refl (fun _ => False) _) fun i hi _ => ⟨hi.1, fun h => h⟩, hm.lo, by have := hm.hi; omega⟩
end
end Go.Vm.Make
namespace Go.Vm.Parse
open Go Go.Proofs
theorem srcP_bad {B : BrP} {L : List Tk} {n : Nat} {c a : Int} (h : srcP B L n = some (.inr (c, a))) : c ≠ 0 := by
 simp only [srcP, Option.bind_eq_some_iff, Option.map_eq_some_iff] at h
 obtain ⟨d, _, p, _, q, _, b, _, h5⟩ := h
 split at h5
 · cases h5
 · rename_i hc
   simp only [Sum.inr.injEq, Prod.mk.injEq] at h5
   rw [← h5.1]; exact hc
theorem parseP_bad {B : BrP} {src : List UInt8} {n : Nat} {c a : Int} (h : parseP B src n = some (.inr (c, a))) : c ≠ 0 := by
 unfold parseP at h
 simp only [Option.bind_eq_some_iff] at h
 obtain ⟨q, h1, h2⟩ := h
 cases q with
 | inr f =>
  simp only [Option.some.injEq, Sum.inr.injEq] at h2
  subst h2
  exact lexFrom_bad h1
 | inl L => exact srcP_bad h2
end Go.Vm.Parse
namespace Go.Vm.Make
open Go Go.Proofs Go.Vm.Parse
attribute [local simp] repCells_succ writeAt rd_Fr toList_beq gpe gpn spe gse gsn ne_r0 ne_l0 le_s0 ne_r1 ne_l1 lt_s1 le_s1 ne_r2 ne_l2 lt_s2 le_s2 ne_r3 ne_l3 lt_s3 le_s3
theorem flat_ints {k : Nat} {x : Value} {o : AObj} (fa : FlatArg (isInt .i64) 1 k x o) {H : Heap} (hH : H.get k = o) : ∃ N : List Int, SL H x N := by
 obtain ⟨base, len, cap, cs, rfl, h1, h2, h3, h4, h5⟩ := fa
 have hb : ∀ cs : List Value, (∀ c ∈ cs, isInt .i64 c) → ∃ N : List Int, cs = N.map iv := by
  intro cs
  induction cs with
  | nil => intro _; exact ⟨[], rfl⟩
  | cons c cs ih =>
   intro h
   obtain ⟨N, hN⟩ := ih fun c hc => h c (by simp [hc])
   obtain ⟨n, hn, _⟩ := h c (by simp)
   exact ⟨n :: N, by simp [hn, ← hN]⟩
 rcases h5 with ⟨rfl, rfl, rfl, rfl⟩ | ⟨rfl, rfl⟩
 · exact ⟨[], none, 0, rfl, .inl ⟨rfl, rfl⟩⟩
 · obtain ⟨N, rfl⟩ := hb cs h4
   simp at h3
   refine ⟨N.take len, some ⟨k, 0, none⟩, cap, ?_, .inr ⟨k, 0, false, 0, 0, _, rfl, hH, ?_, ?_⟩⟩
   · simp only [List.length_take]; rw [Nat.min_eq_left (by omega)]
   · simp; omega
   · simp only [List.length_take, Nat.min_eq_left (show len ≤ N.length by omega), List.drop_zero, List.map_take]
section
variable {E : Hooks} (hE : Plain E)
include hE
theorem all_long {H : Heap} {b : Option Addr} {n cap : Nat} (hn : 4096 < n) : ∃ H', (run Tryz.prog E).call 16 [.slice b n cap] H = some (.val (.tuple #[.slice none 0 0, .agg ⟨[.int .i64 16, .int .i64 4096]⟩]), H') ∧ Same (fun _ => False) H H' := by
 refine of_gives ?_
 rw [c_All hE, callB, bodyOf]
 simp [Tryz.f16, show (4096 : Int) < n by omega]
 exact Same.push _ _ _
theorem parse_long {H : Heap} {b : Option Addr} {n cap : Nat} (hn : 4096 < n) : ∃ H', (run Tryz.prog E).call 5 [.slice b n cap] H = some (.val (.tuple #[.agg ⟨sr5 ByteArray.empty nl nl nl nl⟩, .agg ⟨[.int .i64 16, .int .i64 4096]⟩]), H') ∧ Same (fun _ => False) H H' := by
 refine of_gives ?_
 obtain ⟨HA, eA, kA⟩ := all_long hE (H := ((H.push (.row true 0 1 (sr5 ByteArray.empty nl nl nl nl))).push (.row true 0 1 [.int .i64 0, .int .i64 0]))) (b := b) (cap := cap) hn
 have nA := kA.n
 simp at nA
 have gA0 : HA.get H.n = .row true 0 1 (sr5 ByteArray.empty nl nl nl nl) := kA.at (by rw [Heap.get_push, if_neg (by simp), Heap.get_push_self]) (by simp) (fun h => h)
 have gA1 : HA.get (H.n + 1) = .row true 0 1 [.int .i64 0, .int .i64 0] := kA.at (Heap.get_push_self _ _) (by simp) (fun h => h)
 have kH : Same (fun _ => False) H HA := ((Same.push _ _ _).then_push _).trans kA
 have tA0 : H.n < HA.n := by omega
 have tA1 : H.n + 1 < HA.n := by omega
 rw [c_Parse hE, callB, bodyOf]
 simp only [sr5, nl] at gA0 eA
 simp [Tryz.f5, eA]
 refine region_plan (by exact pl_parse0) ?_
 simp [gA0, gA1, tA0, tA1]
 refine ⟨?_, (kH.then_push _).then_set (by simp; omega) (.inr (by omega)) _ |>.then_set (by simp; omega) (.inr (by omega)) _⟩
 simp [sr5, nl]
theorem parse_made {H : Heap} {S : Nat → Prop} {ov : Value} {out : List UInt8} (g : OutS H S ov out) : ∃ (res : Src ⊕ (Int × Int)) (o : Out) (K : Heap), (run Tryz.prog E).call 5 [ov] H = some (o, K) ∧ RetP H res o K ∧ (∀ s, res = .inl s → SrcOK s 4097) ∧ ∀ c a, res = .inr (c, a) → c ≠ 0 := by
 by_cases hb : 4096 < out.length
 · obtain ⟨b, rfl⟩ := g.slice
   obtain ⟨K, e, k⟩ := parse_long hE (H := H) (b := b) (cap := out.length) hb
   exact ⟨.inr (16, 4096), _, K, e, ⟨k, rfl⟩, fun s h => by (cases h), fun c a h => by (cases h; decide)⟩
 · have hall : AllOK E H ov out := by
    rcases g with ⟨rfl, rfl⟩ | ⟨id, tl, rfl, htl, hS, hg⟩
    · exact AllOK.nil hE H
    · exact AllOK.bs hE (sid := id) (off := 0) (cap := out.length) ⟨true, tl, 1, _, hg, by simp, Nat.le_refl _, by rw [List.drop_zero]; exact List.take_of_length_le (by simp)⟩ (by omega)
   obtain ⟨n, res, hx⟩ := parse_ans out
   have hv : isTuple ov = false := by obtain ⟨b, rfl⟩ := g.slice; rfl
   obtain ⟨o, K, e, hr⟩ := parse_any hE hv hall (by omega) hx
   refine ⟨res, o, K, e, hr, ?_, ?_⟩
   · rintro s rfl
     have h := parse_ok hx
     exact ⟨h.decls, h.procs, h.claims, h.body, by have := h.size; omega⟩
   · rintro c a rfl
     exact parseP_bad hx
end
end Go.Vm.Make
namespace Go.Vm.Tree
open Go Go.Proofs Go.Vm.Parse Go.Vm.Make
attribute [local simp] repCells_succ writeAt rd_Fr toList_beq gpe gpn spe gse gsn
theorem pl_alike22 : planOf Tryz.prog (drawN Tryz.f3 0) = some [none, none, none, some (0, 1), some (0, 1), none, none, none, none, none, none, none, none, none, none, none, none, none, some (3, 1), some (3, 1), some (3, 1), some (3, 1), none, none, none, none, none, none, some (5, 1), none, none, none, none, none, none, none] := by decide +kernel
theorem c_alike22 (args : List Value) (H : Heap) : (run Tryz.prog noHooks).call 3 args H = callB Tryz.prog noHooks Tryz.f3 args H := call_B Tryz.func3 rfl (by decide +kernel) rfl args H
theorem retp_shape {H : Heap} {res : Src ⊕ (Int × Int)} {o : Out} {K : Heap} (h : RetP H res o K) (hs : ∀ s, res = .inl s → SrcOK s 4097) (hf : ∀ c a, res = .inr (c, a) → c ≠ 0) :
  ∃ x b1 n1 c1 b2 n2 c2 b3 n3 c3 b4 n4 c4 c a, o = .val (.tuple #[.agg ⟨[.string x, .slice b1 n1 c1, .slice b2 n2 c2, .slice b3 n3 c3, .slice b4 n4 c4]⟩, .agg ⟨[.int .i64 c, .int .i64 a]⟩]) ∧ Same (fun _ => False) H K ∧
   (c = 0 → ∃ s, SrcSz s ∧ RSrc K (fun _ => True) s [.string x, .slice b1 n1 c1, .slice b2 n2 c2, .slice b3 n3 c3, .slice b4 n4 c4]) := by
 obtain ⟨k, h⟩ := h
 cases res with
 | inr f =>
  obtain ⟨c, a⟩ := f
  simp only [] at h
  subst h
  exact ⟨_, _, _, _, _, _, _, _, _, _, _, _, _, c, a, rfl, k, fun e => absurd e (hf c a rfl)⟩
 | inl s =>
  obtain ⟨cs, rfl, r⟩ := h
  obtain ⟨u1, u2, u3, u4, e, -⟩ := sr_parts r
  subst e
  exact ⟨_, _, _, _, _, _, _, _, _, _, _, _, _, 0, 0, rfl, k, fun _ => ⟨s, SrcSz.of (hs s rfl) (by omega), RSrc.move (Same.refl (fun _ => False) K) (fun i _ _ => ⟨trivial, fun h => h⟩) r⟩⟩
theorem alike22_walk (x : Value) (o : AObj) (fa : FlatArg (isInt .i64) 1 0 x o) (y : Value) (o2 : AObj) (fb : FlatArg (isInt .i64) 1 1 y o2) :
  Gives ((run Tryz.prog noHooks).call 3 [x, y] ((Heap.empty.push o).push o2)) fun o _ => o = .val (.bool true) := by
 obtain ⟨H, hH⟩ : ∃ H, H = (Heap.empty.push o).push o2 := ⟨_, rfl⟩
 rw [← hH]
 obtain ⟨N, hN⟩ := flat_ints fa (H := H) (by rw [hH, Heap.get_push, if_neg (by simp)]; exact Heap.get_push_self _ _)
 obtain ⟨M, hM⟩ := flat_ints fb (H := H) (by rw [hH]; exact Heap.get_push_self _ _)
 clear hH
 obtain ⟨b1, c1, rfl⟩ : ∃ b c, x = .slice b N.length c := by obtain ⟨b, c, rfl, _⟩ := hN; exact ⟨b, c, rfl⟩
 obtain ⟨b2, c2, rfl⟩ : ∃ b c, y = .slice b M.length c := by obtain ⟨b, c, rfl, _⟩ := hM; exact ⟨b, c, rfl⟩
 rw [c_alike22, callB, bodyOf]
 by_cases h1 : 300 < N.length
 · obtain ⟨H2, e2⟩ := awake22 H
   simp [Tryz.f3, show (300 : Int) < N.length by omega, e2]
 by_cases h2 : 300 < M.length
 · obtain ⟨H2, e2⟩ := awake22 H
   simp [Tryz.f3, show ¬ (300 : Int) < N.length by omega, show (300 : Int) < M.length by omega, e2]
 obtain ⟨b5, out, H3, e3, k3, g3, -, -⟩ := text_ok plain0 hN (by omega)
 obtain ⟨res, oP, H4, e4, hP, hs, hf⟩ := parse_made plain0 g3
 obtain ⟨x1, a1, l1, q1, a2, l2, q2, a3, l3, q3, a4, l4, q4, c, a, rfl, k4, hS⟩ := retp_shape hP hs hf
 have D1 := duo_of H4 [.string ByteArray.empty, .slice none 0 0, .slice none 0 0, .slice none 0 0, .slice none 0 0] [.string x1, .slice a1 l1 q1, .slice a2 l2 q2, .slice a3 l3 q3, .slice a4 l4 q4] c a
 generalize hK1 : (((H4.push (.row true 0 1 [.string ByteArray.empty, .slice none 0 0, .slice none 0 0, .slice none 0 0, .slice none 0 0])).push (.row true 0 1 [.int .i64 0, .int .i64 0])).set H4.n (.row true 0 1 [.string x1, .slice a1 l1 q1, .slice a2 l2 q2, .slice a3 l3 q3, .slice a4 l4 q4])).set (H4.n + 1) (.row true 0 1 [.int .i64 c, .int .i64 a]) = K1 at *
 have kH1 : Same (fun _ => False) H K1 := (k3.trans k4).trans D1.same
 obtain ⟨b6, out2, H5, e5, k5, g5, -, -⟩ := text_ok plain0 (hM.same kH1.all) (by omega)
 obtain ⟨res2, oP2, H6, e6, hP2, hs2, hf2⟩ := parse_made plain0 g5
 obtain ⟨y1, d1, m1, r1, d2, m2, r2, d3, m3, r3, d4, m4, r4, cc, aa, rfl, k6, hT⟩ := retp_shape hP2 hs2 hf2
 have D2 := duo_of H6 [.string ByteArray.empty, .slice none 0 0, .slice none 0 0, .slice none 0 0, .slice none 0 0] [.string y1, .slice d1 m1 r1, .slice d2 m2 r2, .slice d3 m3 r3, .slice d4 m4 r4] cc aa
 generalize hK2 : (((H6.push (.row true 0 1 [.string ByteArray.empty, .slice none 0 0, .slice none 0 0, .slice none 0 0, .slice none 0 0])).push (.row true 0 1 [.int .i64 0, .int .i64 0])).set H6.n (.row true 0 1 [.string y1, .slice d1 m1 r1, .slice d2 m2 r2, .slice d3 m3 r3, .slice d4 m4 r4])).set (H6.n + 1) (.row true 0 1 [.int .i64 cc, .int .i64 aa]) = K2 at *
 have k12 : Same (fun _ => False) K1 K2 := (k5.trans k6).trans D2.same
 have ga := k12.at D1.g1 (by simp) fun h => h
 have gf := k12.at D1.g2 (by simp) fun h => h
 have gb := D2.g1
 have gg := D2.g2
 simp [Tryz.f3, show ¬ (300 : Int) < N.length by omega, show ¬ (300 : Int) < M.length by omega, e3, e4]
 rw [hK1]
 simp [e5, e6]
 rw [hK2]
 by_cases hc : c = 0
 · by_cases hcc : cc = 0
   · subst hc hcc
     obtain ⟨s, zs, rs⟩ := hS rfl
     obtain ⟨t, zt, rt⟩ := hT rfl
     have go : ∀ {X Y : Heap}, Same (fun _ => False) X Y → ∀ {q : Src} {cs : List Value}, RSrc X (fun _ => True) q cs → RSrc Y (fun _ => True) q cs := fun k q cs h => RSrc.move k (fun i _ _ => ⟨trivial, fun h => h⟩) h
     replace rs := go (D1.same.trans k12) rs
     replace rt := go D2.same rt
     obtain ⟨o, K3, e7, rfl, k7⟩ := pSame plain0 zs zt rs rt
     have ga3 := k7.at ga (by simp) fun h => h
     have gb3 := k7.at gb (by simp) fun h => h
     obtain ⟨o, K4, e8, rfl, k8⟩ := rSame plain0 zs zt (go k7 rs) (go k7 rt)
     have ga4 := k8.at ga3 (by simp) fun h => h
     have gb4 := k8.at gb3 (by simp) fun h => h
     obtain ⟨o, K5, e9, rfl, k9⟩ := pSame plain0 zs zs (go k8 (go k7 rs)) (go k8 (go k7 rs))
     rw [sameR_refl] at e9
     have ga5 := k9.at ga4 (by simp) fun h => h
     have gb5 := k9.at gb4 (by simp) fun h => h
     obtain ⟨x1', x2', x3', x4', es, -, -, -, G1⟩ := sr_parts (go k9 (go k8 (go k7 rs)))
     obtain ⟨y1', y2', y3', y4', et, -, -, -, G2⟩ := sr_parts (go k9 (go k8 (go k7 rt)))
     simp only [sr5, List.cons.injEq, true_and, and_true, Value.slice.injEq] at es et
     obtain ⟨-, -, -, -, rfl, rfl, rfl⟩ := es
     obtain ⟨-, -, -, -, rfl, rfl, rfl⟩ := et
     obtain ⟨o, K6, eA, rfl, kA⟩ := pStmts plain0 _ s.body (Nat.lt_succ_self _) zs.b t.body zt.b K5 _ _ G1 G2
     have ga6 := kA.at ga5 (by simp) fun h => h
     have gb6 := kA.at gb5 (by simp) fun h => h
     obtain ⟨o, K7, eB, rfl, kB⟩ := rStmts plain0 _ s.body (Nat.lt_succ_self _) zs.b t.body zt.b K6 _ _ (G1.keep kA) (G2.keep kA)
     have ga7 := kB.at ga6 (by simp) fun h => h
     have gb7 := kB.at gb6 (by simp) fun h => h
     obtain ⟨o, K8, eC, rfl, kC⟩ := pCount plain0 zs (go kB (go kA (go k9 (go k8 (go k7 rs)))))
     have ga8 := kC.at ga7 (by simp) fun h => h
     obtain ⟨o, K9, eD, rfl, kD⟩ := rCount plain0 zs (go kC (go kB (go kA (go k9 (go k8 (go k7 rs))))))
     obtain ⟨KE, eE⟩ := awake22 K9
     simp [gf, gg]
     refine region_plan (by exact pl_alike22) ?_
     simp [ga, gb, e7, ga3, gb3, e8, ga4, gb4, e9, ga5, gb5, eA, ga6, gb6, eB, ga7, gb7, eC, ga8, eD, eE]
   · obtain ⟨H9, e9⟩ := awake22 K2
     simp [gf, gg, hc, hcc, e9]
 · obtain ⟨H9, e9⟩ := awake22 K2
   simp [gf, gg, hc, e9]
end Go.Vm.Tree
