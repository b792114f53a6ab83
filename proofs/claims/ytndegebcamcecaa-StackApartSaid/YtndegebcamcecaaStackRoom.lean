/- What is proved: 'signalboxlaw4.StackRoom' hands back true, whatever the input. -/
import Derived.Test.YtndegebcamcecaaStack
namespace Go.Vm.StackLaw
open Go Go.Proofs
set_option maxRecDepth 100000
set_option linter.unusedSimpArgs false
attribute [local simp] repCells_succ writeAt rd_Fr
theorem snew_ok (H : Heap) (n : Nat) (h2 : n ≤ 8192) : W.call 8 [.int .i64 n] H = some (.val (.tuple #[.pointer (some ⟨H.n + 1, 0, none⟩), .int .i64 0]),
    (H.push (.row true 0 1 (repCells n [.int .i64 0]))).push (.row true 0 1 [.slice (some ⟨H.n, 0, none⟩) n n])) := by
  rw [c8, callB, bodyOf]
  simp [Try.f8, show ¬ (n : Int) < 0 by omega, show ¬ 8192 < (n : Int) by omega, show (n : Int) ≤ 9223372036854775807 by omega, show 8 * (n : Int) ≤ 281474976710656 by omega]
theorem IsS.new (H : Heap) (ws : List Value) : IsS ((H.push (.row true 0 1 ws)).push (.row true 0 1 [.slice (some ⟨H.n, 0, none⟩) ws.length ws.length])) (H.n + 1) H.n ws where
  store := by simp [Heap.get_push]
  words := by simp [Heap.get_push]
  ne := by omega
theorem snew_run (H : Heap) (n : Nat) (h2 : n ≤ 8192) : ∃ H', W.call 8 [iv n] H = some (.val (.tuple #[ptr (H.n + 1), iv 0]), H') ∧ IsS H' (H.n + 1) H.n ((List.replicate n 0).map iv) ∧ H'.n = H.n + 2 ∧ Same (fun _ => False) H H' := by
  refine ⟨_, snew_ok H n h2, ?_, by simp, (Same.push _ _ _).trans (Same.push _ _ _)⟩
  have := IsS.new H ((List.replicate n 0).map iv)
  rw [List.map_replicate, List.length_replicate] at this
  rw [repCells_one, List.map_replicate]
  exact this
theorem new_run {H : Heap} {sp q : Nat} {zs : List Int} (S : IsS H sp q (zs.map iv)) (hb : zs.length ≤ 8192) (a s : Nat) (hf : a + s ≤ zs.length) :
    ∃ H', W.call 9 [ptr sp, iv a, iv s] H = some (.val (ptr H.n), H') ∧ St H' H.n sp q none a s 0 [] zs ∧ Same (fun _ => False) H H' := by
  have e := slen_run S
  simp only [ptr_eq, iv_eq, List.length_map] at e
  have hs := Heap.lt_of_get S.store (by simp)
  have hq := Heap.lt_of_get S.words (by simp)
  have f := Same.push (fun _ => False) H (.row true 0 1 [ptr sp, iv a, iv s, iv (0 : Nat), .slice none 0 0])
  refine ⟨_, ?_, ⟨⟨⟨.slice none 0 0, by simp [Heap.get_push], .inl ⟨rfl, rfl, rfl⟩⟩, by simp⟩, S.same f (fun h => h) (fun h => h), by omega, by omega, by simp, by simp, hf, hb, by omega, by simp [FOK]⟩, f⟩
  rw [c9, callB, bodyOf]
  simp [Try.f9, e, show ¬ (a : Int) < 0 by omega, show ¬ (s : Int) < 0 by omega, show ¬ zs.length < a by omega, wrap64 ((zs.length : Int) - a) (by omega) (by omega), show ¬ (zs.length : Int) - a < s by omega]
theorem room_walk (size : Int) (hs : Lit.wf (.int .i64 size) = true) (x : Int) (hx : Lit.wf (.int .i64 x) = true) : Gives (W.call 3 [.int .i64 size, .int .i64 x] Heap.empty) fun o _ => o = .val (.bool true) := by
  clear hs hx
  rw [c3, callB, bodyOf]
  by_cases c1 : size < 0
  · simp [Try.f3, awake_true, c1]
  by_cases c2 : 300 < size
  · simp [Try.f3, awake_true, c1, c2]
  obtain ⟨s, rfl⟩ : ∃ v : Nat, size = v := ⟨size.toNat, by omega⟩
  obtain ⟨H1, e1, S1, _, _⟩ := snew_run Heap.empty 300 (by omega)
  obtain ⟨H2, e2, T2, _⟩ := new_run S1 (by simp) (300 - s) s (by simp; omega)
  generalize hzs : List.replicate 300 (0 : Int) = zs at *
  have hz0 : zs.length = 300 := by rw [← hzs]; simp
  clear hzs S1
  generalize Heap.empty.n = p at *
  generalize H1.n = k at *
  simp only [ptr_eq, iv_eq] at e1 e2
  rw [show ((300 : Nat) : Int) = 300 by rfl] at e1
  rw [show ((300 - s : Nat) : Int) = 300 - (s : Int) by omega] at e2
  simp [Try.f3, awake_true, c1, c2, e1, wrap64 (300 - (s : Int)) (by omega) (by omega), e2]
  generalize ha : 300 - s = a at *
  refine loop_wp (fun m t H => ∃ i zs, i + m = s ∧ rd t 8 = iv (i : Nat) ∧ St H k (p + 1) p none a s i [] zs ∧ zs.length = 300 ∧ ∀ j, j < i → zs.getD (a + j) 0 = j) s ⟨0, zs, by omega, by simp, T2, hz0, by omega⟩ ?_
  rintro m t H hk ⟨i, zs, hi, g8, T, hz, hj⟩
  have ht : t.length = 79 := hk.1.trans (by simp [len_Bs])
  have hh := hk.all [0, 1, 7] (by decide +kernel)
  simp at hh
  obtain ⟨a0, a1, a7⟩ := hh
  simp only [iv_eq] at g8
  by_cases hm : m = 0
  · subst hm
    obtain rfl : i = s := by omega
    have e3 := push_full T (Nat.le_refl _) x
    have e4 := len_run T.cur
    simp only [ptr_eq, iv_eq] at e3 e4
    simp [ht, a0, a1, a7, g8, e3, e4, wrap64 ((i : Int) - 1) (by omega) (by omega)]
    refine loop_wp (fun m t H => rd t 9 = iv ((m : Int) - 1) ∧ m ≤ i ∧ St H k (p + 1) p none a i m [] zs) i ⟨by simp [ht], by omega, T⟩ ?_
    rintro m2 t2 H2 hk2 ⟨g9, hm2, T2⟩
    have ht2 : t2.length = 79 := hk2.1.trans (by simp [ht])
    have hh := hk2.all [0, 1, 7] (by decide +kernel)
    simp [ht, a0, a1, a7] at hh
    obtain ⟨b0, b1, b7⟩ := hh
    simp only [iv_eq] at g9
    by_cases h0 : m2 = 0
    · subst h0
      obtain ⟨H3, e5, _⟩ := pop_none T2 (by simp [opn])
      simp only [ptr_eq, iv_eq] at e5
      simp [ht2, b0, b1, b7, g9, e5, awake_true]
    · obtain ⟨H3, e5, T3, _⟩ := pop_run T2 (by simp [opn]; omega) (by omega)
      rw [hj (m2 - 1) (by omega)] at e5
      simp only [ptr_eq, iv_eq] at e5
      rw [show ((m2 - 1 : Nat) : Int) = (m2 : Int) - 1 by omega] at e5
      simp [ht2, b0, b1, b7, g9, e5, show (1 : Int) ≤ m2 by omega, show ¬ m2 = 0 by omega, show 1 ≤ m2 by omega, wrap64 ((m2 : Int) - 1 - 1) (by omega) (by omega)]
      exact ⟨m2 - 1, by omega, by omega, by omega, T3⟩
  · obtain ⟨H3, e5, T3, _⟩ := push_run T (by omega) i
    simp only [ptr_eq, iv_eq] at e5
    simp [ht, a0, a1, a7, g8, e5, show i < s by omega, wrap64 ((i : Int) + 1) (by omega) (by omega)]
    refine ⟨m - 1, by omega, i + 1, by omega, by omega, _, T3, by simpa using hz, fun j hj2 => ?_⟩
    rw [List.getElem?_set]
    by_cases hji : j = i
    · subst hji
      rw [if_pos rfl, if_pos (by omega)]
      rfl
    · rw [if_neg (by omega), ← List.getD_eq_getElem?_getD]
      exact hj j (by omega)
end Go.Vm.StackLaw
