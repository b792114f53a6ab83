/- What is proved: 'signalboxlaw26.ScopeBuilds' hands back true, whatever the input. -/
import Derived.Test.YtbjcfdopkaekjaaAlike2
import Derived.Test.YtbjcfdopkaekjaaMany2
namespace Go.Vm.Scope
open Go Go.Proofs Go.Vm.Parse Go.Vm.ScopeLaw
set_option maxRecDepth 100000
set_option maxHeartbeats 4000000
set_option linter.unusedSimpArgs false
set_option linter.unusedVariables false
attribute [local simp] repCells_succ writeAt rd_Fr toList_beq
/-- The bytes of a law's slice. -/
theorem flat_bytes {k : Nat} {x : Value} {o : AObj} (fa : FlatArg (isInt .u8) 1 k x o) {H : Heap} (hH : H.get k = o) :
    x = .slice none 0 0 ∨ ∃ (src : List UInt8) (cap : Nat), x = .slice (some ⟨k, 0, none⟩) src.length cap ∧ BS H k 0 cap src := by
  obtain ⟨base, len, cap, cs, rfl, h1, h2, h3, h4, h5⟩ := fa
  rcases h5 with ⟨rfl, rfl, rfl, rfl⟩ | ⟨rfl, rfl⟩
  · exact .inl rfl
  · right
    have hb : ∀ cs : List Value, (∀ c ∈ cs, isInt .u8 c) → ∃ src : List UInt8, cs = src.map byteC := by
      intro cs
      induction cs with
      | nil => intro _; exact ⟨[], rfl⟩
      | cons c cs ih =>
        intro h
        obtain ⟨src, hs⟩ := ih fun c hc => h c (by simp [hc])
        obtain ⟨n, hn, h0, h255⟩ := h c (by simp)
        refine ⟨UInt8.ofNat n.toNat :: src, ?_⟩
        have e0 : IntKind.u8.min = 0 := rfl
        have e1 : IntKind.u8.max = 255 := rfl
        rw [e0] at h0
        rw [e1] at h255
        simp only [List.map_cons, byteC, ← hs, hn, List.cons.injEq, and_true]
        congr 1
        rw [UInt8.toNat_ofNat']
        omega
    obtain ⟨src, rfl⟩ := hb cs h4
    simp at h3
    refine ⟨src.take len, cap, ?_, false, 0, 0, _, hH, by simp; omega, by simp; omega, ?_⟩
    · simp only [List.length_take, show min len src.length = len by omega]
    · simp only [List.length_take, show min len src.length = len by omega, List.drop_zero, List.map_take]
theorem c_Builds (args : List Value) (H : Heap) : (run Try.prog E1).call 3 args H = callB Try.prog E1 Try.f3 args H := call_B Try.func3 rfl (by decide +kernel) rfl args H
theorem builds_walk (x : Value) (o : AObj) (fa : FlatArg (isInt .u8) 1 0 x o) (n : ByteArray) (_w2 : n.size ≤ maxLen) :
    Gives ((run Try.prog E1).call 3 [x, .string n] (Heap.empty.push o)) fun o _ => o = .val (.bool true) := by
  have aw := awake_true
  have fin : ∀ (src : List UInt8) (b : Option Addr) (cap : Nat), x = .slice b src.length cap → AllOK E1 (Heap.empty.push o) x src → Gives ((run Try.prog E1).call 3 [x, .string n] (Heap.empty.push o)) fun o _ => o = .val (.bool true) := by
    rintro src b cap rfl hall
    rw [c_Builds, callB, bodyOf]
    by_cases h1 : 4096 < src.length
    · simp [Try.f3, show (4096 : Int) < src.length by omega, aw]
    have h1' : ¬ (4096 : Int) < src.length := by omega
    by_cases h2 : 100 < n.size
    · simp [Try.f3, h1', show (100 : Int) < n.size by omega, aw]
    have h2' : ¬ (100 : Int) < n.size := by omega
    obtain ⟨oA, HA, eA, rfl⟩ := alike_run plain_E1 rfl hall (by omega) n
    simp [Try.f3, h1', h2', eA, aw]
  rcases flat_bytes fa (show (Heap.empty.push o).get 0 = o from Heap.get_push_self _ _) with rfl | ⟨src, cap, rfl, hb⟩
  · exact fin [] none 0 rfl (AllOK.nil plain_E1 _)
  · by_cases hlen : 4096 < src.length
    · rw [c_Builds, callB, bodyOf]
      simp [Try.f3, show (4096 : Int) < src.length by omega, aw]
    · exact fin src _ cap rfl (AllOK.bs plain_E1 hb (by omega))
end Go.Vm.Scope
