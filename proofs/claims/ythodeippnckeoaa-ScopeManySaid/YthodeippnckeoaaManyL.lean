/- What is defined and proved: the texts that ScopeMany makes, and what they mean, in plain words. What is proved: what the texts that ScopeMany makes mean, for all numbers. -/
import Derived.Test.YthodeippnckeoaaTab7
import Derived.Test.YthodeippnckeoaaParse20
import Derived.Test.YthodeippnckeoaaLexL
namespace Go.Vm.Scope
open Go Go.Proofs Go.Vm.Parse
set_option maxRecDepth 100000
set_option linter.unusedSimpArgs false
set_option linter.unusedVariables false
def noBr : BrP := fun _ _ _ _ => none
def wordK (k : Nat) : ByteArray := match k with
  | 0 => ⟨#[114, 101, 115, 111, 117, 114, 99, 101, 32]⟩
  | 1 => ⟨#[115, 101, 109, 97, 112, 104, 111, 114, 101, 32]⟩
  | 2 => ⟨#[115, 104, 97, 114, 101, 100, 32]⟩
  | _ => ⟨#[118, 97, 114, 32]⟩
def mostK (k : Nat) : Nat := match k with
  | 0 => 6
  | 1 => 8
  | _ => 16
def two (i : Nat) : ByteArray := ⟨#[UInt8.ofNat (97 + i / 20), UInt8.ofNat (97 + i % 20)]⟩
def txt (k : Nat) : Nat → ByteArray
  | 0 => ⟨#[112, 114, 111, 103, 114, 97, 109, 32, 112, 59, 32]⟩
  | i + 1 => (if k < 2 then txt k i ++ wordK k ++ ⟨#[110]⟩ ++ two i ++ ⟨#[32, 49]⟩ else txt k i ++ wordK k ++ ⟨#[110]⟩ ++ two i) ++ ⟨#[59, 32]⟩
def tailT : ByteArray := ⟨#[98, 101, 103, 105, 110, 32, 115, 107, 105, 112, 32, 101, 110, 100, 46]⟩
def chk (k n : Nat) : Bool := match parseP noBr (txt k n ++ tailT).data.toList 100 with
  | some (.inl S) => S.procs.isEmpty && S.decls.all (fun d => decide (d.n ≤ 1099511627776)) && decide (S.decls.length ≤ 100) &&
    match declsB tab0 S.decls with
    | .ok _ => decide (n ≤ mostK k)
    | .error (c, a) => decide (mostK k < n) && decide (c = 16) && decide (a = (txt k (mostK k)).size + (wordK k).size)
  | _ => false
end Go.Vm.Scope
namespace Go.Vm.Scope
open Go Go.Proofs Go.Vm.Parse
set_option maxRecDepth 100000
set_option maxHeartbeats 4000000
set_option linter.unusedSimpArgs false
set_option linter.unusedVariables false
/-! ### The text -/
def wordL (k : Nat) : List UInt8 := match k with
  | 0 => [114, 101, 115, 111, 117, 114, 99, 101]
  | 1 => [115, 101, 109, 97, 112, 104, 111, 114, 101]
  | 2 => [115, 104, 97, 114, 101, 100]
  | _ => [118, 97, 114]
def nameL (i : Nat) : List UInt8 := [UInt8.ofNat (97 + i / 20), UInt8.ofNat (97 + i % 20)]
def numL (k : Nat) : List UInt8 := if k < 2 then [32, 49] else []
def declT (k i : Nat) : List UInt8 := wordL k ++ (32 :: 110 :: (nameL i ++ (numL k ++ [59, 32])))
def preT : List UInt8 := [112, 114, 111, 103, 114, 97, 109, 32, 112, 59, 32]
def endT : List UInt8 := [98, 101, 103, 105, 110, 32, 115, 107, 105, 112, 32, 101, 110, 100, 46]
def szK (k : Nat) : Nat := (wordL k).length + 4 + (numL k).length + 2
def offK (k i : Nat) : Nat := 11 + i * szK k
theorem app_list (x y : ByteArray) : (x ++ y).data.toList = x.data.toList ++ y.data.toList := by
  rw [ByteArray.data_append]; simp
theorem wordK_list {k : Nat} (hk : k ≤ 3) : (wordK k).data.toList = wordL k ++ [32] := by
  rcases (show k = 0 ∨ k = 1 ∨ k = 2 ∨ k = 3 by omega) with rfl | rfl | rfl | rfl <;> rfl
theorem txt_list {k : Nat} (hk : k ≤ 3) : ∀ n, (txt k n).data.toList = preT ++ gcat (declT k) 0 n
  | 0 => rfl
  | n + 1 => by
    have ih := txt_list hk n
    rw [gcat_snoc, ← List.append_assoc, ← ih, Nat.zero_add]
    simp only [txt, app_list]
    have e2 : (two n).data.toList = nameL n := rfl
    split
    · rename_i h; simp only [app_list, wordK_list hk, e2, declT, numL, if_pos h]; simp
    · rename_i h; simp only [app_list, wordK_list hk, e2, declT, numL, if_neg h]; simp
/-! ### Its tokens -/
def declK (k i : Nat) : List Tk :=
  ⟨3, (offK k i : Nat), 0, ⟨⟨wordL k⟩⟩⟩ :: ⟨1, (offK k i + ((wordL k).length + 1) : Nat), 0, ⟨⟨110 :: nameL i⟩⟩⟩ ::
    ((if k < 2 then [⟨2, (offK k i + ((wordL k).length + 1) + 4 : Nat), 1, ByteArray.empty⟩] else []) ++ [⟨4, (offK k i + (szK k - 2) : Nat), 0, b1 59⟩])
def endK (o : Nat) : List Tk := [⟨3, (o : Nat), 0, ⟨⟨[98, 101, 103, 105, 110]⟩⟩⟩, ⟨3, (o + 6 : Nat), 0, ⟨⟨[115, 107, 105, 112]⟩⟩⟩, ⟨3, (o + 11 : Nat), 0, ⟨⟨[101, 110, 100]⟩⟩⟩, ⟨4, (o + 14 : Nat), 0, b1 46⟩, ⟨5, (o + 15 : Nat), 0, ByteArray.empty⟩]
def preK : List Tk := [⟨3, (0 : Nat), 0, ⟨⟨[112, 114, 111, 103, 114, 97, 109]⟩⟩⟩, ⟨1, (8 : Nat), 0, ⟨⟨[112]⟩⟩⟩, ⟨4, (9 : Nat), 0, b1 59⟩]
theorem name_let {i : Nat} (h : i < 40) : ∀ x ∈ nameL i, nameB x = true := by
  intro x hx
  have h1 : (UInt8.ofNat (97 + i / 20)).toNat = 97 + i / 20 := by rw [UInt8.toNat_ofNat']; omega
  have h2 : (UInt8.ofNat (97 + i % 20)).toNat = 97 + i % 20 := by rw [UInt8.toNat_ofNat']; omega
  simp only [nameL, List.mem_cons, List.not_mem_nil, or_false] at hx
  unfold nameB letterB
  rcases hx with rfl | rfl
  · rw [h1]; simp; omega
  · rw [h2]; simp; omega
theorem name_no : ∀ i, i < 40 → isWord ⟨⟨110 :: nameL i⟩⟩ = false := by decide +kernel
theorem decl_lex {k : Nat} (hk : k ≤ 3) : ∀ i, i < 40 → ∀ {l : List UInt8} {toks : List Tk}, Lx l (offK k (i + 1)) toks → Lx (declT k i ++ l) (offK k i) (declK k i ++ toks) := by
  intro i hi l toks h
  have hname : ∀ {l' : List UInt8} {a : Nat} {t' : List Tk}, l'.takeWhile nameB = [] → Lx l' (a + 3) t' → Lx (110 :: (nameL i ++ l')) a (⟨1, (a : Nat), 0, ⟨⟨110 :: nameL i⟩⟩⟩ :: t') := fun hl hx =>
    Lx.name 1 rfl (name_let hi) hl (by rw [name_no i hi]; simp [nameL]) hx
  rcases (show k = 0 ∨ k = 1 ∨ k = 2 ∨ k = 3 by omega) with rfl | rfl | rfl | rfl
  · have e : offK 0 (i + 1) = offK 0 i + 16 := by simp only [offK, szK, wordL, numL]; simp; omega
    rw [e] at h
    refine Lx.name (c := 114) (w := [101, 115, 111, 117, 114, 99, 101]) 3 rfl (by decide) rfl (by rw [if_pos (by decide)]) ?_
    refine Lx.blank (hname rfl ?_)
    refine Lx.blank (Lx.digit (c := 49) rfl rfl ?_)
    exact Lx.sign (c := 59) rfl rfl (Lx.blank h)
  · have e : offK 1 (i + 1) = offK 1 i + 17 := by simp only [offK, szK, wordL, numL]; simp; omega
    rw [e] at h
    refine Lx.name (c := 115) (w := [101, 109, 97, 112, 104, 111, 114, 101]) 3 rfl (by decide) rfl (by rw [if_pos (by decide)]) ?_
    refine Lx.blank (hname rfl ?_)
    refine Lx.blank (Lx.digit (c := 49) rfl rfl ?_)
    exact Lx.sign (c := 59) rfl rfl (Lx.blank h)
  · have e : offK 2 (i + 1) = offK 2 i + 12 := by simp only [offK, szK, wordL, numL]; simp; omega
    rw [e] at h
    refine Lx.name (c := 115) (w := [104, 97, 114, 101, 100]) 3 rfl (by decide) rfl (by rw [if_pos (by decide)]) ?_
    refine Lx.blank (hname rfl ?_)
    exact Lx.sign (c := 59) rfl rfl (Lx.blank h)
  · have e : offK 3 (i + 1) = offK 3 i + 9 := by simp only [offK, szK, wordL, numL]; simp; omega
    rw [e] at h
    refine Lx.name (c := 118) (w := [97, 114]) 3 rfl (by decide) rfl (by rw [if_pos (by decide)]) ?_
    refine Lx.blank (hname rfl ?_)
    exact Lx.sign (c := 59) rfl rfl (Lx.blank h)
theorem end_lex (o : Nat) : Lx endT o (endK o) := by
  refine Lx.name (c := 98) (w := [101, 103, 105, 110]) 3 rfl (by decide) rfl (by rw [if_pos (by decide)]) ?_
  refine Lx.blank (Lx.name (c := 115) (w := [107, 105, 112]) 3 rfl (by decide) rfl (by rw [if_pos (by decide)]) ?_)
  refine Lx.blank (Lx.name (c := 101) (w := [110, 100]) 3 rfl (by decide) rfl (by rw [if_pos (by decide)]) ?_)
  exact Lx.sign (c := 46) rfl rfl (Lx.nil _)
theorem text_lex {k n : Nat} (hk : k ≤ 3) (hn : n ≤ 40) : Lx (txt k n ++ tailT).data.toList 0 (preK ++ (gcat (declK k) 0 n ++ endK (offK k n))) := by
  rw [app_list, txt_list hk, List.append_assoc]
  have h := Lx.gcat (f := declT k) (g := declK k) (o := offK k) (decl_lex hk) n 0 (l := endT) (toks := endK (offK k n)) (by omega) (by rw [Nat.zero_add]; exact end_lex _)
  rw [show offK k 0 = 11 by simp [offK]] at h
  refine Lx.name (c := 112) (w := [114, 111, 103, 114, 97, 109]) 3 rfl (by decide) rfl (by rw [if_pos (by decide)]) ?_
  refine Lx.blank (Lx.name (c := 112) (w := []) 1 rfl (by decide) rfl (by rw [if_neg (by decide)]; simp) ?_)
  exact Lx.sign (c := 59) rfl rfl (Lx.blank h)
/-! ### Its declarations -/
def nmK (k : Nat) : Int := if k < 2 then 1 else 0
def dclK (k i : Nat) : Dcl := ⟨k + 1, (offK k i + ((wordL k).length + 1) : Nat), ⟨⟨110 :: nameL i⟩⟩, nmK k⟩
def stK (k : Nat) : Nat := if k < 2 then 4 else 3
theorem decl_read {L : List Tk} {k : Nat} (hk : k ≤ 3) {p i : Nat} {l : List Tk} (h : L.drop p = declK k i ++ l) (m : Nat) (acc : List Dcl) : declsL L (m + 1) acc ⟨p, 0, 0⟩ = declsL L m (acc ++ [dclK k i]) ⟨p + stK k, 0, 0⟩ := by
  have t0 := tok_drop h 0
  have t1 := tok_drop h 1
  have t2 := tok_drop h 2
  have t3 := tok_drop h 3
  rcases (show k = 0 ∨ k = 1 ∨ k = 2 ∨ k = 3 by omega) with rfl | rfl | rfl | rfl
  all_goals
    simp [declK, wordL] at t0 t1 t2 t3
    rw [declsL]
    simp [kindP, isP, t0, tResource, tSemaphore, tShared, tVar, PS.on, dclP, dclS, nameP, nameS, t1, unitsP, numP, numS, t2, t3, sizeP, mustS, tSemi, b1, dclK, nmK, stK, wordL, Nat.add_assoc]
theorem decls_read {L : List Tk} {k : Nat} (hk : k ≤ 3) : ∀ (j i p : Nat) (acc : List Dcl) {o : Nat} (m : Nat), L.drop p = gcat (declK k) i j ++ endK o → j < m → declsL L m acc ⟨p, 0, 0⟩ = some (acc ++ gcat (fun i => [dclK k i]) i j, ⟨p + stK k * j, 0, 0⟩)
  | 0, i, p, acc, o, m, h, hm => by
    obtain ⟨m, rfl⟩ : ∃ m', m = m' + 1 := ⟨m - 1, by omega⟩
    have t0 := tok_drop h 0
    simp [gcat, endK] at t0
    rw [declsL]
    simp [kindP, isP, t0, tResource, tSemaphore, tShared, tVar, gcat]
  | j + 1, i, p, acc, o, m, h, hm => by
    obtain ⟨m, rfl⟩ : ∃ m', m = m' + 1 := ⟨m - 1, by omega⟩
    rw [gcat, List.append_assoc] at h
    rw [decl_read hk h]
    have hl : (declK k i).length = stK k := by unfold declK stK; split <;> simp
    have h2 : L.drop (p + stK k) = gcat (declK k) (i + 1) j ++ endK o := by rw [← List.drop_drop, h, ← hl, List.drop_left]
    rw [decls_read hk j (i + 1) (p + stK k) _ m h2 (by omega)]
    simp only [gcat, List.append_assoc, Nat.mul_add, Nat.mul_one, Nat.add_assoc, Nat.add_comm (stK k)]
theorem src_read {k n : Nat} (hk : k ≤ 3) (hn : n ≤ 40) : ∃ S : Src, parseP noBr (txt k n ++ tailT).data.toList 100 = some (.inl S) ∧ S.procs = [] ∧ S.decls = gcat (fun i => [dclK k i]) 0 n := by
  unfold parseP
  rw [(text_lex hk hn).all]
  generalize hL : preK ++ (gcat (declK k) 0 n ++ endK (offK k n)) = L
  simp only [Option.bind_some]
  have h0 : L.drop 0 = preK ++ (gcat (declK k) 0 n ++ endK (offK k n)) := hL.symm
  have h3 : L.drop 3 = gcat (declK k) 0 n ++ endK (offK k n) := by rw [← hL]; rfl
  have hl : ∀ (j i : Nat), (gcat (declK k) i j).length = stK k * j := by
    intro j
    induction j with
    | zero => intro i; rfl
    | succ j ih =>
      intro i
      have hl : (declK k i).length = stK k := by unfold declK stK; split <;> simp
      simp only [gcat, List.length_append, ih, hl, Nat.mul_add]; omega
  have h4 : L.drop (3 + stK k * n) = endK (offK k n) := by rw [← List.drop_drop, h3, ← hl n 0, List.drop_left]
  have a0 := tok_drop h0 0
  have a1 := tok_drop h0 1
  have a2 := tok_drop h0 2
  have b0 := tok_drop h4 0
  have e1 := tok_drop h4 1
  have e2 := tok_drop h4 2
  have e3 := tok_drop h4 3
  have e4 := tok_drop h4 4
  simp [preK] at a0 a1 a2
  simp [endK] at b0 e1 e2 e3 e4
  have hs : mustS L (nameS L (mustS L ⟨0, 0, 0⟩ tProgram)) tSemi = ⟨3, 0, 0⟩ := by
    simp [mustS, nameS, isP, a0, a1, a2, tProgram, tSemi, PS.on, b1]
  unfold srcP
  rw [hs, decls_read hk n 0 3 [] 100 h3 (by omega)]
  generalize 3 + stK k * n = q at *
  have hp : procsL noBr L 100 [] ⟨q, 0, 0⟩ = some ([], ⟨q, 0, 0⟩) := by
    show procsL noBr L (99 + 1) [] ⟨q, 0, 0⟩ = _
    rw [procsL, if_neg (by simp [isP, b0, tProcedure])]
  have hc : claimsP L 100 ⟨q, 0, 0⟩ = some ([], ⟨q, 0, 0⟩) := by
    unfold claimsP
    rw [if_neg (by simp [isP, b0, tClaims])]
  have hm : mustS L ⟨q, 0, 0⟩ tBegin = ⟨q + 1, 0, 0⟩ := by simp [mustS, isP, b0, tBegin]
  have hs1 : stmtP noBr L (98 + 1) 1 ⟨q + 1, 0, 0⟩ = some (.mk 1 (tok L (q + 1)).at_ ByteArray.empty [] [] [] [] [], ⟨q + 2, 0, 0⟩) := by
    rw [stmtP, if_neg (by simp [e1]), if_pos (by simp [isP, e1, tSkip])]
    rfl
  have hi : isP L ⟨q + 2, 0, 0⟩ tSemi = false := by simp [isP, e2, tSemi]
  have hs2 : stmtsL noBr L 100 1 [] true ⟨q + 1, 0, 0⟩ = some ([.mk 1 (tok L (q + 1)).at_ ByteArray.empty [] [] [] [] []], ⟨q + 2, 0, 0⟩) := by
    show stmtsL noBr L (98 + 1 + 1) 1 [] true ⟨q + 1, 0, 0⟩ = _
    rw [stmtsL, if_pos ⟨rfl, rfl⟩, hs1]
    simp only [Option.bind_some, hi, takeS, if_neg, Bool.false_eq_true, if_false, List.nil_append]
    rw [stmtsL, if_neg (by simp)]
  have he : endS L (mustS L (mustS L ⟨q + 2, 0, 0⟩ tEnd) (b1 46)) = ⟨q + 4, 0, 0⟩ := by simp [mustS, isP, e2, e3, e4, tEnd, b1, endS]
  simp only [Option.bind_some, hp, hc, hm, hs2, Option.map_some, he, if_true, List.nil_append]
  exact ⟨_, rfl, rfl, rfl⟩
end Go.Vm.Scope
