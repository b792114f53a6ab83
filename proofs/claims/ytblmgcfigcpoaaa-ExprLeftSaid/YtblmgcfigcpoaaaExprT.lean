/- What is defined and proved: whether two expressions are the same; an expression's places; lists of numbers compared. -/
import Derived.Test.YtblmgcfigcpoaaaParse6
import Derived.Test.YtblmgcfigcpoaaaGoes
import Derived.Test.YtblmgcfigcpoaaaLex2
import Derived.Test.YtblmgcfigcpoaaaCut
namespace Go.Vm.Parse
open Go Go.Proofs
set_option maxRecDepth 100000
set_option maxHeartbeats 1000000
set_option linter.unusedSimpArgs false
set_option linter.unusedVariables false
attribute [local simp] repCells_succ writeAt rd_Fr toList_beq gpe gpn spe gse gsn ne_r0 ne_l0 le_s0 ne_r1 ne_l1 lt_s1 le_s1 ne_r2 ne_l2 lt_s2 le_s2 ne_r3 ne_l3 lt_s3 le_s3 ne_r4 ne_l4 lt_s4 le_s4 ne_r5 ne_l5 lt_s5 le_s5 ne_r6 ne_l6 lt_s6 le_s6 ne_r7 ne_l7 lt_s7 le_s7
theorem REs.length {H : Heap} {S : Nat → Prop} : ∀ {l : List Ex} {cs : List Value}, REs H S l cs → cs.length = l.length * 6
  | [], cs, h => by simp only [REs] at h; subst h; rfl
  | e :: l, cs, h => by
    simp only [REs] at h
    obtain ⟨c1, c2, rfl, h1, h2⟩ := h
    have := REs.length h2
    have := h1.len
    simp; omega
theorem REs.item {H : Heap} {S : Nat → Prop} : ∀ {l : List Ex} {cs : List Value}, REs H S l cs → ∀ i (hi : i < l.length), RE H S l[i] ((cs.drop (i * 6)).take 6)
  | [], cs, _, i, hi => absurd hi (Nat.not_lt_zero _)
  | e :: l, cs, h, i, hi => by
    simp only [REs] at h
    obtain ⟨c1, c2, rfl, h1, h2⟩ := h
    have hl := h1.len
    cases i with
    | zero =>
      simp only [Nat.zero_mul, List.drop_zero, List.getElem_cons_zero]
      rw [List.take_left' hl]; exact h1
    | succ i =>
      have e : (i + 1) * 6 = c1.length + i * 6 := by omega
      rw [List.getElem_cons_succ, e, List.drop_append, List.drop_eq_nil_of_le (by omega), List.nil_append, show c1.length + i * 6 - c1.length = i * 6 by omega]
      exact REs.item h2 i (by simpa using hi)
/-! ### The same expression -/
mutual
/-- Of no more than two parts, each such. -/
def Thin : Ex → Prop
  | .mk _ _ _ _ _ s => s.length ≤ 2 ∧ Thins s
def Thins : List Ex → Prop
  | [] => True
  | e :: es => Thin e ∧ Thins es
end
theorem Thins.mem : ∀ {l : List Ex}, Thins l → ∀ e ∈ l, Thin e
  | e :: l, h, x, hx => by
    simp only [Thins] at h
    rcases List.mem_cons.1 hx with rfl | hx
    · exact h.1
    · exact Thins.mem h.2 x hx
theorem thin_zero : Thin .zero := by unfold Ex.zero; simp [Thin, Thins]
theorem x_thin (L : List Tk) : ∀ n cmd s e s', xP L n cmd s = some (e, s') → (∀ k lv x, cmd = .loop k lv x → Thin x) → Thin e := by
  intro n
  induction n with
  | zero => intro cmd s e s' h; cases h
  | succ n ih =>
    intro cmd s e s' h hx
    have one : ∀ {a b c d y} {x : Ex}, Thin x → Thin (.mk a b c d y [x]) := fun hx => by simp [Thin, Thins, hx]
    have none' : ∀ {a b c d y}, Thin (.mk a b c d y []) := by simp [Thin, Thins]
    have go : ∀ {cmd s e s'}, xP L n cmd s = some (e, s') → cmd.isLoop = false → Thin e := fun h hl => ih _ _ _ _ h (fun k lv x hc => by rw [hc] at hl; cases hl)
    cases cmd with
    | row k lv =>
      rw [xP] at h
      split at h
      · cases h; exact thin_zero
      split at h
      · exact go h rfl
      split at h
      · split at h
        · exact go h rfl
        split at h
        · cases h; exact thin_zero
        · simp only [Option.map_eq_some_iff] at h
          obtain ⟨⟨e1, s1⟩, h1, h2⟩ := h
          cases h2
          exact one (go h1 rfl)
      · simp only [Option.bind_eq_some_iff] at h
        obtain ⟨⟨e1, s1⟩, h1, h2⟩ := h
        exact ih _ _ _ _ h2 fun k lv x hc => by cases hc; exact go h1 rfl
    | loop k lv x =>
      have hx := hx k lv x rfl
      rw [xP] at h
      split at h
      · cases h; exact hx
      · simp only [Option.bind_eq_some_iff] at h
        obtain ⟨⟨e1, s1⟩, h1, h2⟩ := h
        have h3 := go h1 rfl
        have two : ∀ {a b c d y}, Thin (.mk a b c d y [x, e1]) := by simp [Thin, Thins, hx, h3]
        split at h2
        · cases h2; exact two
        · exact ih _ _ _ _ h2 fun k lv x hc => by cases hc; exact two
    | fact lv =>
      rw [xP] at h
      split at h
      · split at h
        · cases h; exact thin_zero
        · simp only [Option.map_eq_some_iff] at h
          obtain ⟨⟨e1, s1⟩, h1, h2⟩ := h
          cases h2
          exact one (go h1 rfl)
      split at h
      · cases h; exact none'
      split at h
      · cases h; exact none'
      split at h
      · cases h; exact none'
      split at h
      · split at h
        · cases h; exact thin_zero
        · simp only [Option.map_eq_some_iff] at h
          obtain ⟨⟨e1, s1⟩, h1, h2⟩ := h
          cases h2
          exact go h1 rfl
      split at h
      · split at h
        · cases h; exact none'
        · simp only [Option.map_eq_some_iff] at h
          obtain ⟨⟨e1, s1⟩, h1, h2⟩ := h
          cases h2
          exact one (go h1 rfl)
      · cases h; exact thin_zero
    | index lv =>
      rw [xP] at h
      split at h
      · cases h; exact thin_zero
      split at h
      · cases h; exact thin_zero
      · simp only [Option.map_eq_some_iff] at h
        obtain ⟨⟨e1, s1⟩, h1, h2⟩ := h
        cases h2
        exact go h1 rfl
mutual
def sameE : Ex → Ex → Bool
  | .mk k _ n o x s, .mk k' _ n' o' x' s' => decide (k = k') && (decide (n = n') && (decide (o = o') && (decide (x = x') && sameEs s s')))
def sameEs : List Ex → List Ex → Bool
  | [], [] => true
  | e :: es, f :: fs => sameE e f && sameEs es fs
  | _, _ => false
end
theorem sameEs_len : ∀ {a b : List Ex}, sameEs a b = true → a.length = b.length
  | [], [], _ => rfl
  | [], _ :: _, h => by simp [sameEs] at h
  | _ :: _, [], h => by simp [sameEs] at h
  | e :: es, f :: fs, h => by
    simp only [sameEs, Bool.and_eq_true] at h
    simp [sameEs_len h.2]
theorem sameEs_at : ∀ {a b : List Ex}, a.length = b.length → ((∀ i (h : i < a.length) (h' : i < b.length), sameE a[i] b[i] = true) → sameEs a b = true) ∧ ∀ i (h : i < a.length) (h' : i < b.length), sameE a[i] b[i] = false → sameEs a b = false
  | [], [], _ => ⟨fun _ => rfl, fun i h => absurd h (Nat.not_lt_zero _)⟩
  | [], _ :: _, h => by simp at h
  | _ :: _, [], h => by simp at h
  | e :: es, f :: fs, h => by
    have ih := sameEs_at (a := es) (b := fs) (by simpa using h)
    refine ⟨fun hk => ?_, fun i h1 h2 hf => ?_⟩
    · simp only [sameEs, Bool.and_eq_true]
      exact ⟨hk 0 (by simp) (by simp), ih.1 fun i h1 h2 => hk (i + 1) (by simpa using h1) (by simpa using h2)⟩
    · simp only [sameEs]
      cases i with
      | zero => simp only [List.getElem_cons_zero] at hf; rw [hf]; rfl
      | succ i =>
        rw [ih.2 i (by simpa using h1) (by simpa using h2) (by simpa using hf), Bool.and_false]
mutual
theorem sameE_refl : ∀ e, sameE e e = true
  | .mk k a n o x s => by simp [sameE, sameEs_refl s]
theorem sameEs_refl : ∀ l, sameEs l l = true
  | [] => rfl
  | e :: l => by simp [sameEs, sameE_refl e, sameEs_refl l]
end
theorem q_same : quiet Try.prog (drawN Try.f26 0) = true := by decide +kernel
theorem q_ints : quiet Try.prog (drawN Try.f20 0) = true := by decide +kernel
section
variable {E : Hooks} (hE : Plain E)
include hE
theorem c_SameExpr (args : List Value) (H : Heap) : (run Try.prog E).call 19 args H = callB Try.prog E Try.f19 args H := call_B Try.func19 rfl (by decide +kernel) (hE.no _ rfl rfl) args H
theorem c_sameExprs (args : List Value) (H : Heap) : (run Try.prog E).call 26 args H = callB Try.prog E Try.f26 args H := call_B Try.func26 rfl (by decide +kernel) (hE.no _ rfl rfl) args H
theorem c_exprPlaces (args : List Value) (H : Heap) : (run Try.prog E).call 27 args H = callB Try.prog E Try.f27 args H := call_B Try.func27 rfl (by decide +kernel) (hE.no _ rfl rfl) args H
theorem c_ExprPlaces (args : List Value) (H : Heap) : (run Try.prog E).call 21 args H = callB Try.prog E Try.f21 args H := call_B Try.func21 rfl (by decide +kernel) (hE.no _ rfl rfl) args H
theorem c_Ints (args : List Value) (H : Heap) : (run Try.prog E).call 20 args H = callB Try.prog E Try.f20 args H := call_B Try.func20 rfl (by decide +kernel) (hE.no _ rfl rfl) args H
omit hE in
/-- What comparing an expression must give. -/
def SameOK (E : Hooks) (e : Ex) : Prop := ∀ (f : Ex) (H : Heap) (S1 S2 : Nat → Prop) (c1 c2 : List Value), Thin e → Thin f → RE H S1 e c1 → RE H S2 f c2 →
  Gives ((run Try.prog E).call 19 [.agg ⟨c1⟩, .agg ⟨c2⟩] H) fun o H' => o = .val (.bool (sameE e f)) ∧ Same (fun _ => False) H H'
theorem sames_run {a : List Ex} (ha : ∀ e ∈ a, SameOK E e) {b : List Ex} (ta : Thins a) (tb : Thins b) {H : Heap} {S1 S2 : Nat → Prop} {v1 v2 : Value} (hl : a.length ≤ 100000) (hl2 : b.length ≤ 100000)
    (h1 : (v1 = .slice none 0 0 ∧ a = []) ∨ ∃ id tl cs', v1 = .slice (some ⟨id, 0, none⟩) a.length a.length ∧ H.get id = .row true tl 6 cs' ∧ REs H S1 a cs')
    (h2 : (v2 = .slice none 0 0 ∧ b = []) ∨ ∃ id tl cs', v2 = .slice (some ⟨id, 0, none⟩) b.length b.length ∧ H.get id = .row true tl 6 cs' ∧ REs H S2 b cs') :
    Gives ((run Try.prog E).call 26 [v1, v2] H) fun o H' => o = .val (.bool (sameEs a b)) ∧ Same (fun _ => False) H H' := by
  obtain ⟨x1, rfl⟩ : ∃ x1, v1 = .slice x1 a.length a.length := by
    rcases h1 with ⟨rfl, rfl⟩ | ⟨id, tl, cs, rfl, _⟩ <;> exact ⟨_, rfl⟩
  obtain ⟨x2, rfl⟩ : ∃ x2, v2 = .slice x2 b.length b.length := by
    rcases h2 with ⟨rfl, rfl⟩ | ⟨id, tl, cs, rfl, _⟩ <;> exact ⟨_, rfl⟩
  rw [c_sameExprs hE, callB, bodyOf]
  by_cases hlen : ¬ a.length = b.length
  · have hs : sameEs a b = false := by
      cases h : sameEs a b with
      | false => rfl
      | true => exact absurd (sameEs_len h) hlen
    simp [Try.f26, show ¬ (a.length : Int) = b.length by omega, hs, hlen]
    exact Same.refl _ _
  have hlen : a.length = b.length := by omega
  have key := sameEs_at hlen
  simp [Try.f26, hlen]
  refine loop_wp (fun m t K => ∃ i : Nat, i + m = b.length ∧ rd t 5 = .int .i64 i ∧ Same (fun _ => False) H K ∧ ∀ j (h : j < a.length) (h' : j < b.length), j < i → sameE a[j] b[j] = true) b.length ?_ ?_
  · exact ⟨0, by omega, by simp, Same.refl _ _, fun j _ _ h => by omega⟩
  rintro m t K hk ⟨i, hm, g5, kS, hj⟩
  have ht : t.length = 27 := hk.1.trans (by simp [len_Bs])
  have hh := hk.all [0, 1] (by decide +kernel)
  simp at hh
  obtain ⟨u0, u1⟩ := hh
  rcases Nat.lt_or_ge i b.length with hi | hi
  · have hia : i < a.length := by omega
    rcases h1 with ⟨e1, rfl⟩ | ⟨id1, tl1, cs1, e1, g1, r1⟩
    · simp at hia
    rcases h2 with ⟨e2, rfl⟩ | ⟨id2, tl2, cs2, e2, g2, r2⟩
    · simp at hi
    simp only [Value.slice.injEq] at e1 e2
    obtain ⟨rfl, _, _⟩ := e1
    obtain ⟨rfl, _, _⟩ := e2
    have g1' := kS.at g1 (by simp) (fun h => h)
    have g2' := kS.at g2 (by simp) (fun h => h)
    have q1 := RE.move kS (S' := S1) (fun i hi _ => ⟨hi, fun h => h⟩) _ _ (r1.item i hia)
    have q2 := RE.move kS (S' := S2) (fun i hi _ => ⟨hi, fun h => h⟩) _ _ (r2.item i hi)
    have l1 := r1.length
    have l2 := r2.length
    obtain ⟨o, K', e3, rfl, k3⟩ := ha a[i] (List.getElem_mem hia) b[i] K S1 S2 _ _ (ta.mem _ (List.getElem_mem hia)) (tb.mem _ (List.getElem_mem hi)) q1 q2
    have hw := wrap64 ((i : Int) + 1) (by omega) (by omega)
    simp [ht, u0, u1, g5, hi]
    refine region_quiet (by exact q_same) ?_
    by_cases hs : sameE a[i] b[i] = true
    · rw [hs] at e3
      simp [ht, u0, u1, g5, hi, hia, g1', g2', l1, l2, show i * 6 + 6 ≤ a.length * 6 by omega, show i * 6 + 6 ≤ b.length * 6 by omega, e3, hw, ← hlen]
      refine ⟨m - 1, by omega, i + 1, by omega, by simp [ht], kS.then0 k3, fun j h h' hlt => ?_⟩
      rcases Nat.lt_or_ge j i with h3 | h3
      · exact hj j h (by omega) h3
      · obtain rfl : j = i := by omega
        exact hs
    · have hs' : sameE a[i] b[i] = false := by simpa using hs
      rw [hs'] at e3
      simp [ht, u0, u1, g5, hi, hia, g1', g2', l1, l2, show i * 6 + 6 ≤ a.length * 6 by omega, show i * 6 + 6 ≤ b.length * 6 by omega, e3, ← hlen]
      exact ⟨key.2 i hia hi hs', kS.then0 k3⟩
  · simp [ht, u0, u1, g5, show ¬ i < b.length by omega]
    exact ⟨key.1 fun j h h' => hj j h h' (by omega), kS⟩
theorem same_run : ∀ n e, SizeOf.sizeOf e < n → SameOK E e := by
  intro n
  induction n with
  | zero => intro e h; omega
  | succ n ih =>
    intro e hn f H S1 S2 c1 c2 te tf h1 h2
    cases e with
    | mk k a m o x s =>
    cases f with
    | mk k' a' m' o' x' s' =>
    simp only [Thin] at te tf
    simp only [RE] at h1 h2
    obtain ⟨v1, rfl, h1⟩ := h1
    obtain ⟨v2, rfl, h2⟩ := h2
    rw [c_SameExpr hE, callB, bodyOf]
    have g1 : ((H.push (.row true 0 1 [.int .i64 k, .int .i64 a, .int .i64 m, .int .i64 o, .string x, v1])).push (.row true 0 1 [.int .i64 k', .int .i64 a', .int .i64 m', .int .i64 o', .string x', v2])).get H.n = .row true 0 1 [.int .i64 k, .int .i64 a, .int .i64 m, .int .i64 o, .string x, v1] := by
      rw [Heap.get_push, if_neg (by simp), Heap.get_push_self]
    have kS : Same (fun _ => False) H ((H.push (.row true 0 1 [.int .i64 k, .int .i64 a, .int .i64 m, .int .i64 o, .string x, v1])).push (.row true 0 1 [.int .i64 k', .int .i64 a', .int .i64 m', .int .i64 o', .string x', v2])) := (Same.push _ _ _).then_push _
    have hb : isTuple v1 = false ∧ v1.cells.toList = [v1] := by rcases h1 with ⟨rfl, _⟩ | ⟨id, tl, cs', rfl, _⟩ <;> exact ⟨rfl, rfl⟩
    have hb2 : isTuple v2 = false ∧ v2.cells.toList = [v2] := by rcases h2 with ⟨rfl, _⟩ | ⟨id, tl, cs', rfl, _⟩ <;> exact ⟨rfl, rfl⟩
    simp only [sameE]
    by_cases c1 : k = k' ∧ m = m' ∧ o = o' ∧ x = x'
    · obtain ⟨rfl, rfl, rfl, rfl⟩ := c1
      obtain ⟨x1, n1, d1, hx1⟩ : ∃ x1 n1 d1, v1 = .slice x1 n1 d1 := by rcases h1 with ⟨rfl, rfl⟩ | ⟨id, tl, cs, rfl, _⟩ <;> exact ⟨_, _, _, rfl⟩
      obtain ⟨x2, n2, d2, hx2⟩ : ∃ x1 n1 d1, v2 = .slice x1 n1 d1 := by rcases h2 with ⟨rfl, rfl⟩ | ⟨id, tl, cs, rfl, _⟩ <;> exact ⟨_, _, _, rfl⟩
      obtain ⟨o1, K, e1, rfl, k1⟩ := sames_run hE (a := s) (fun e he => ih e (by
          have := List.sizeOf_lt_of_mem he
          have h3 : SizeOf.sizeOf (Ex.mk k a m o x s) = 1 + SizeOf.sizeOf k + SizeOf.sizeOf a + SizeOf.sizeOf m + SizeOf.sizeOf o + SizeOf.sizeOf x + SizeOf.sizeOf s := by simp
          omega)) te.2 tf.2 (by omega) (by omega)
        (h1.imp (fun h => h) fun ⟨id, tl, cs', q1, q2, q3, q4⟩ => ⟨id, tl, cs', q1, kS.at q3 (by simp) (fun h => h), REs.move kS (S' := S1) (fun i hi _ => ⟨hi, fun h => h⟩) _ _ q4⟩)
        (h2.imp (fun h => h) fun ⟨id, tl, cs', q1, q2, q3, q4⟩ => ⟨id, tl, cs', q1, kS.at q3 (by simp) (fun h => h), REs.move kS (S' := S2) (fun i hi _ => ⟨hi, fun h => h⟩) _ _ q4⟩)
      subst hx1 hx2
      simp [Try.f19, g1, e1]
      exact kS.trans k1
    · have hs : (decide (k = k') && (decide (m = m') && (decide (o = o') && (decide (x = x') && sameEs s s')))) = false := by
        by_cases d1 : k = k'
        · by_cases d2 : m = m'
          · by_cases d3 : o = o'
            · have d4 : ¬ x = x' := fun h => c1 ⟨d1, d2, d3, h⟩
              simp [d4]
            · simp [d3]
          · simp [d2]
        · simp [d1]
      rw [hs]
      by_cases d1 : k = k'
      · by_cases d2 : m = m'
        · by_cases d3 : o = o'
          · have d4 : ¬ x = x' := fun h => c1 ⟨d1, d2, d3, h⟩
            simp [Try.f19, g1, hb, hb2, d1, d2, d3, d4]
            exact (Same.push _ _ _).then_push _
          · simp [Try.f19, g1, hb, hb2, d1, d2, d3]
            exact (Same.push _ _ _).then_push _
        · simp [Try.f19, g1, hb, hb2, d1, d2]
          exact (Same.push _ _ _).then_push _
      · simp [Try.f19, g1, hb, hb2, d1]
        exact (Same.push _ _ _).then_push _
/-! ### An expression's places -/
omit hE in
mutual
def placesE : Ex → List Int
  | .mk _ a _ _ _ s => a :: placesEs s
def placesEs : List Ex → List Int
  | [] => []
  | e :: es => placesE e ++ placesEs es
end
omit hE in
/-- A list of numbers in a row, as an append leaves it. -/
def IntsAt (H : Heap) (v : Value) (l : List Int) : Prop := (v = .slice none 0 0 ∧ l = []) ∨ ∃ id tl, v = .slice (some ⟨id, 0, none⟩) l.length l.length ∧ tl ≤ 1 ∧ H.get id = .row true tl 1 (l.map (.int .i64))
omit hE in
def idOf (v : Value) (i : Nat) : Prop := match v with | .slice (some a) _ _ => a.block = i | _ => False
omit hE in
theorem tf_int : TF Try.prog 33 1 := ⟨_, _, _, by simp, by simp, by simp; rfl, by omega, by simp; rfl, rfl, by omega, rfl⟩
omit hE in
theorem IntsAt.app {H : Heap} {v : Value} {l : List Int} (h : IntsAt H v l) (hl : l.length ≤ 100000) (a : Int) :
    ∃ v' H', exAppend Try.prog [33, 33] v (.slice (some ⟨H.n, 0, none⟩) 1 1) (H.push (.row true 0 1 [.int .i64 a])) = some (v', H') ∧ IntsAt H' v' (l ++ [a]) ∧ Same (idOf v) H H' ∧ (∀ i, idOf v' i → H.n ≤ i) ∧ (∃ b, v' = .slice b (l.length + 1) (l.length + 1)) := by
  rcases h with ⟨rfl, rfl⟩ | ⟨id, tl, rfl, htl, hg⟩
  · refine ⟨_, _, app_nil tf_int (c := [.int .i64 a]) rfl (Heap.get_push_self _ _), .inr ⟨_, 1, rfl, by omega, by exact Heap.get_push_self _ _⟩, Same.none ((Same.push _ _ _).then_push _), fun i hi => ?_, _, rfl⟩
    have : H.n + 1 = i := hi
    omega
  · have hid := Heap.lt_of_get hg (by simp)
    obtain ⟨H2, e1, e2, e3, e4⟩ := app_one tf_int (H := H.push (.row true 0 1 [.int .i64 a])) (id := id) (tl := tl) (n := l.length) (xid := H.n) (cs := l.map (.int .i64)) (c := [.int .i64 a]) (xt := 0) (xe := 1) (xo := true) (xc := 1) (by rw [Heap.get_push, if_neg (by omega)]; exact hg) (by simp) htl rfl (Heap.get_push_self _ _) hl
    refine ⟨_, H2, e1, .inr ⟨H.n + 1, 1, by simp, by omega, by simpa using e2⟩, ((Same.none (Same.push _ _ _)).trans (e4.mono fun i hi => hi.symm)), fun i hi => ?_, _, rfl⟩
    have : H.n + 1 = i := hi
    omega
omit hE in
def PlacesOK (E : Hooks) (e : Ex) : Prop := ∀ (H : Heap) (S : Nat → Prop) (cs : List Value) (v : Value) (l : List Int), Thin e → RE H S e cs → (∀ i, S i → ¬ idOf v i) → IntsAt H v l → l.length + (placesE e).length ≤ 100000 →
  Gives ((run Try.prog E).call 27 [.agg ⟨cs⟩, v] H) fun o H' => ∃ v', o = .val v' ∧ IntsAt H' v' (l ++ placesE e) ∧ Same (idOf v) H H' ∧ (∀ i, idOf v' i → H.n ≤ i)
omit hE in
def PlacesI (H : Heap) (v : Value) (l : List Int) (a : Int) (s : List Ex) (bx : List Value) (mm : Nat) (t : List Value) (K : Heap) : Prop :=
  ∃ (i : Nat) (v2 : Value), i + mm = s.length ∧ rd t 5 = .int .i64 i ∧ rd t 1 = v2 ∧ IntsAt K v2 (l ++ a :: placesEs (s.take i)) ∧ Same (idOf v) H K ∧ H.n < K.n ∧ K.get H.n = .row true 0 1 bx ∧ (∀ i, idOf v2 i → H.n + 1 ≤ i)
omit hE in
theorem placesEs_at : ∀ (l : List Ex) (i : Nat) (h : i < l.length), placesEs (l.take (i + 1)) = placesEs (l.take i) ++ placesE l[i]
  | [], i, h => absurd h (Nat.not_lt_zero _)
  | e :: l, 0, h => by simp [placesEs]
  | e :: l, i + 1, h => by
    have := placesEs_at l i (by simpa using h)
    simp only [List.take_succ_cons, placesEs, this, List.getElem_cons_succ, List.append_assoc]
omit hE in
theorem placesEs_le : ∀ (l : List Ex) (i : Nat), (placesEs (l.take i)).length ≤ (placesEs l).length
  | [], i => by simp
  | e :: l, 0 => by simp [placesEs]
  | e :: l, i + 1 => by
    have := placesEs_le l i
    simp only [List.take_succ_cons, placesEs, List.length_append]; omega
theorem places_run : ∀ n e, SizeOf.sizeOf e < n → PlacesOK E e := by
  intro n
  induction n with
  | zero => intro e h; omega
  | succ n ih =>
    intro e hn H S cs v l te h hS hv hlen
    replace h := RE.move (Same.refl (fun _ => False) H) (S' := fun i => S i ∧ i < H.n) (fun i hi hlt => ⟨⟨hi, hlt⟩, fun h => h⟩) _ _ h
    cases e with
    | mk k a m o x s =>
    simp only [Thin] at te
    simp only [RE] at h
    obtain ⟨w, rfl, h⟩ := h
    simp only [placesE, List.length_cons] at hlen
    have kP : Same (fun _ => False) H (H.push (.row true 0 1 [.int .i64 k, .int .i64 a, .int .i64 m, .int .i64 o, .string x, w])) := Same.push _ _ _
    have hv1 : IntsAt (H.push (.row true 0 1 [.int .i64 k, .int .i64 a, .int .i64 m, .int .i64 o, .string x, w])) v l := hv.imp (fun h => h) fun ⟨id, tl, q1, q2, q3⟩ => ⟨id, tl, q1, q2, kP.at q3 (by simp) (fun h => h)⟩
    obtain ⟨v1, H1, e1, hv2, k1, f1, b1, hb1⟩ := hv1.app (by omega) a
    have n1 := k1.n
    simp at n1
    have kH : Same (idOf v) H H1 := (Same.none kP).trans k1
    have hvn : ∀ i, idOf v i → i < H.n := fun i hi => by
      rcases hv with ⟨rfl, _⟩ | ⟨id, tl, rfl, _, q⟩
      · exact hi.elim
      · have : id = i := hi
        subst this
        exact Heap.lt_of_get q (by simp)
    have gb : H1.get H.n = .row true 0 1 [.int .i64 k, .int .i64 a, .int .i64 m, .int .i64 o, .string x, w] := k1.at (Heap.get_push_self _ _) (by simp) (fun h => by have := hvn _ h; omega)
    obtain ⟨x1, n2, d1, hw⟩ : ∃ x1 n1 d1, w = .slice x1 n1 d1 := by rcases h with ⟨rfl, rfl⟩ | ⟨id, tl, cs, rfl, _⟩ <;> exact ⟨_, _, _, rfl⟩
    have hw2 : n2 = s.length ∧ d1 = s.length := by
      rcases h with ⟨h1, rfl⟩ | ⟨id, tl, cs, h1, _⟩
      · rw [h1] at hw; cases hw; exact ⟨rfl, rfl⟩
      · rw [h1] at hw; cases hw; exact ⟨rfl, rfl⟩
    obtain ⟨rfl, rfl⟩ := hw2
    subst hw
    rw [c_exprPlaces hE, callB, bodyOf]
    obtain ⟨vb, vl, vc, rfl⟩ : ∃ b l c, v = .slice b l c := by rcases hv with ⟨rfl, _⟩ | ⟨_, _, rfl, _⟩ <;> exact ⟨_, _, _, rfl⟩
    subst hb1
    simp only [Heap.n_push] at e1
    simp [Try.f27, e1]
    refine loop_wp (PlacesI H (.slice vb vl vc) l a s [.int .i64 k, .int .i64 a, .int .i64 m, .int .i64 o, .string x, .slice x1 s.length s.length]) s.length ?_ ?_
    · refine ⟨0, _, by omega, by simp, rfl, ?_, kH, by omega, gb, fun i hi => ?_⟩
      · simpa [placesEs] using hv2
      · have := f1 i (by simpa using hi); simpa using this
    rintro mm t K hk ⟨i, v2, hm, g5, g1, hI, kS, hKn, gB, hf⟩
    have ht : t.length = 26 := hk.1.trans (by simp [len_Bs])
    have hh := hk.all [2] (by decide +kernel)
    simp at hh
    obtain ⟨v2b, v2l, v2c, rfl⟩ : ∃ b l c, v2 = .slice b l c := by rcases hI with ⟨rfl, _⟩ | ⟨_, _, rfl, _⟩ <;> exact ⟨_, _, _, rfl⟩
    rcases Nat.lt_or_ge i s.length with hi | hi
    · rcases h with ⟨h1, rfl⟩ | ⟨id, tl, cs, h1, hSi, gid, hr⟩
      · simp at hi
      simp only [Value.slice.injEq, and_true] at h1
      subst h1
      have lS := hr.length
      have gid2 : K.get id = .row true tl 6 cs := kS.at gid (by simp) (hS id hSi.1)
      have hr2 := REs.move kS (S' := fun i => S i ∧ i < H.n) (fun i hi _ => ⟨hi, hS i hi.1⟩) _ _ hr
      have hit := hr2.item i hi
      have hpl := placesEs_at s i hi
      have hle := placesEs_le s (i + 1)
      rw [hpl, List.length_append] at hle
      obtain ⟨o3, K3, e3, v3, rfl, hI3, k3, f3⟩ := ih s[i] (by
          have := List.sizeOf_lt_of_mem (List.getElem_mem hi)
          have h3 : SizeOf.sizeOf (Ex.mk k a m o x s) = 1 + SizeOf.sizeOf k + SizeOf.sizeOf a + SizeOf.sizeOf m + SizeOf.sizeOf o + SizeOf.sizeOf x + SizeOf.sizeOf s := by simp
          omega) K (fun i => S i ∧ i < H.n) _ (.slice v2b v2l v2c) (l ++ a :: placesEs (s.take i)) (te.2.mem _ (List.getElem_mem hi)) hit (fun j hj hj2 => by
            have h5 := hf j hj2
            omega) hI (by simp only [List.length_append, List.length_cons]; omega)
      have n3 := k3.n
      have gB3 := k3.at gB (by simp) (fun h => by have := hf _ h; omega)
      have hw := wrap64 ((i : Int) + 1) (by omega) (by have := te.1; omega)
      obtain ⟨v3b, v3l, v3c, rfl⟩ : ∃ b l c, v3 = .slice b l c := by rcases hI3 with ⟨rfl, _⟩ | ⟨_, _, rfl, _⟩ <;> exact ⟨_, _, _, rfl⟩
      simp [ht, g5, g1, hh, gB, hi, hKn, gid2, lS, show i * 6 + 6 ≤ s.length * 6 by omega, e3, hw]
      refine ⟨mm - 1, by omega, i + 1, .slice v3b v3l v3c, by omega, by simp [ht], by simp [ht], ?_, kS.then k3 (fun j hj => .inr (by have := hf j hj; omega)), by omega, gB3, fun j hj => by have := f3 j hj; omega⟩
      rw [hpl]
      simpa using hI3
    · simp [ht, g5, g1, hh, gB, hKn, show ¬ i < s.length by omega]
      refine ⟨?_, kS, fun j hj => by have := hf j hj; omega⟩
      have : s.take i = s := List.take_of_length_le hi
      rw [this] at hI
      simpa [placesE] using hI
/-- All places of an expression, in a new row. -/
theorem all_places (e : Ex) {H : Heap} {S : Nat → Prop} {cs : List Value} (te : Thin e) (h : RE H S e cs) (hlen : (placesE e).length ≤ 100000) :
    ∃ v H', (run Try.prog E).call 21 [.agg ⟨cs⟩] H = some (.val v, H') ∧ IntsAt H' v (placesE e) ∧ Same (fun _ => False) H H' := by
  have kP : Same (fun _ => False) H (H.push (.row true 0 1 cs)) := Same.push _ _ _
  have h2 := RE.move kP (S' := S) (fun i hi _ => ⟨hi, fun h => h⟩) _ _ h
  obtain ⟨o, H', e1, v, rfl, hI, k, _⟩ := places_run hE _ e (Nat.lt_succ_self _) _ S cs (.slice none 0 0) [] te h2 (fun i _ h => h) (.inl ⟨rfl, rfl⟩) (by simpa using hlen)
  refine ⟨v, H', ?_, hI, kP.then k (fun i hi => hi.elim)⟩
  suffices key : Gives ((run Try.prog E).call 21 [.agg ⟨cs⟩] H) fun o H2 => o = .val v ∧ H2 = H' by
    obtain ⟨o, H2, e, rfl, rfl⟩ := key
    exact e
  obtain ⟨a, b, c, d, x, w, rfl, hw1, hw2⟩ := h.six
  obtain ⟨vb, vl, vc, rfl⟩ : ∃ b l c, v = .slice b l c := by rcases hI with ⟨rfl, _⟩ | ⟨_, _, rfl, _⟩ <;> exact ⟨_, _, _, rfl⟩
  rw [c_ExprPlaces hE, callB, bodyOf]
  simp [Try.f21, hw1, hw2, e1]
theorem ints_run {a b : List Int} {H : Heap} {v w : Value} (ha : IntsAt H v a) (hb : IntsAt H w b) (hla : a.length ≤ 100000) (hlb : b.length ≤ 100000) :
    (run Try.prog E).call 20 [v, w] H = some (.val (.bool (decide (a = b))), H) := by
  suffices key : Gives ((run Try.prog E).call 20 [v, w] H) fun o H' => o = .val (.bool (decide (a = b))) ∧ H' = H by
    obtain ⟨o, H', e, rfl, rfl⟩ := key
    exact e
  obtain ⟨x1, rfl⟩ : ∃ x1, v = .slice x1 a.length a.length := by rcases ha with ⟨rfl, rfl⟩ | ⟨id, tl, rfl, _⟩ <;> exact ⟨_, rfl⟩
  obtain ⟨x2, rfl⟩ : ∃ x2, w = .slice x2 b.length b.length := by rcases hb with ⟨rfl, rfl⟩ | ⟨id, tl, rfl, _⟩ <;> exact ⟨_, rfl⟩
  rw [c_Ints hE, callB, bodyOf]
  by_cases hlen : ¬ a.length = b.length
  · have hne : ¬ a = b := fun h => hlen (by rw [h])
    simp [Try.f20, show ¬ (a.length : Int) = b.length by omega, hne, hlen]
  have hlen : a.length = b.length := by omega
  simp [Try.f20, hlen]
  refine loop_wp (fun m t K => ∃ i : Nat, i + m = b.length ∧ rd t 5 = .int .i64 i ∧ K = H ∧ ∀ j (h : j < a.length) (h' : j < b.length), j < i → a[j] = b[j]) b.length ?_ ?_
  · exact ⟨0, by omega, by simp, rfl, fun j _ _ h => by omega⟩
  rintro m t K hk ⟨i, hm, g5, rfl, hj⟩
  have ht : t.length = 26 := hk.1.trans (by simp [len_Bs])
  have hh := hk.all [0, 1] (by decide +kernel)
  simp at hh
  obtain ⟨u0, u1⟩ := hh
  rcases Nat.lt_or_ge i b.length with hi | hi
  · have hia : i < a.length := by omega
    rcases ha with ⟨e1, rfl⟩ | ⟨id1, tl1, e1, _, g1⟩
    · simp at hia
    rcases hb with ⟨e2, rfl⟩ | ⟨id2, tl2, e2, _, g2⟩
    · simp at hi
    simp only [Value.slice.injEq] at e1 e2
    obtain ⟨rfl, _, _⟩ := e1
    obtain ⟨rfl, _, _⟩ := e2
    have hw := wrap64 ((i : Int) + 1) (by omega) (by omega)
    simp [ht, u0, u1, g5, hi]
    refine region_quiet (by exact q_ints) ?_
    by_cases hs : a[i] = b[i]
    · simp [ht, u0, u1, g5, hi, hia, g1, g2, hw, ← hlen, hs]
      refine ⟨m - 1, by omega, i + 1, by omega, by simp [ht], fun j h h' hlt => ?_⟩
      rcases Nat.lt_or_ge j i with h3 | h3
      · exact hj j (by omega) (by omega) h3
      · obtain rfl : j = i := by omega
        exact hs
    · have hne : ¬ a = b := fun h => hs (by subst h; rfl)
      simp [ht, u0, u1, g5, hi, hia, g1, g2, ← hlen, hs, hne]
  · have he : a = b := List.ext_getElem hlen fun j h h' => hj j h h' (by omega)
    simp [ht, u0, u1, g5, show ¬ i < b.length by omega, he]
end
end Go.Vm.Parse
