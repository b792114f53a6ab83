-- PRINTED BY print.sh 35421559b90ae4d0a3588c463048766b98c2df88dd9212a6774a882060cdf62d: not written by this session
import Derived.Test.YtmjljnkkeofngaaPArithDoesx0
import Derived.Test.YtmjljnkkeofngaaPArithDoesx1
import Derived.Test.YtmjljnkkeofngaaPArithDoesx2
namespace Go.Proofs.Ytmjljnkkeofngaa.PArithDoes
open Go.RowKit Go.Proofs.YtmjljnkkeofngaaW.PrintWords Go.Proofs.YtmjljnkkeofngaaW.PrintLast Go.Proofs.YtmjljnkkeofngaaW.PrintMore
attribute [local go_sem] max2_int min2_int max_two min_two max_three min_three max_four min_four   -- for this text's walks alone
set_option linter.unusedVariables false
set_option linter.unusedSimpArgs false

/-! ### signalboxref1_Do: function 21 -/
def signalboxref1_Do.f (k : Nat) (a0 : Int) (a1 : Int) (a2 : Int) : Option (Int × Int) := if a0 = 9 then ((signalboxref1_Add.f a1 a2).bind fun bt147 => (some (bt147.1, bt147.2))) else (if a0 = 10 then ((signalboxref1_Sub.f a1 a2).bind fun bt149 => (some (bt149.1, bt149.2))) else (if a0 = 11 then ((signalboxref1_Mul.f k a1 a2).bind fun bt151 => (some (bt151.1, bt151.2))) else (if a0 = 12 then ((signalboxref1_Div.f a1 a2).bind fun bt153 => (some (bt153.1, bt153.2))) else (if a0 = 13 then ((signalboxref1_Mod.f a1 a2).bind fun bt155 => (some (bt155.1, bt155.2))) else (if a0 = 14 then ((signalboxref1_Sub.f 0 a1).bind fun bt157 => (some (bt157.1, bt157.2))) else (if a0 = 15 then ((signalboxref1_one.f (a1 == a2)).bind fun bt159 => (some (bt159.1, bt159.2))) else (if a0 = 16 then ((signalboxref1_one.f (a1 != a2)).bind fun bt161 => (some (bt161.1, bt161.2))) else (if a0 = 17 then ((signalboxref1_one.f (decide (a1 < a2))).bind fun bt163 => (some (bt163.1, bt163.2))) else (if a0 = 18 then ((signalboxref1_one.f (decide (a1 ≤ a2))).bind fun bt165 => (some (bt165.1, bt165.2))) else (if a0 = 19 then ((signalboxref1_one.f (decide (a1 > a2))).bind fun bt167 => (some (bt167.1, bt167.2))) else (if a0 = 20 then ((signalboxref1_one.f (decide (a1 ≥ a2))).bind fun bt169 => (some (bt169.1, bt169.2))) else (if a0 = 21 then (if a1 = 0 then ((signalboxref1_one.f false).bind fun bt171 => (some (bt171.1, bt171.2))) else ((signalboxref1_one.f (a2 != 0)).bind fun bt173 => (some (bt173.1, bt173.2)))) else (if a0 = 22 then (if a1 = 0 then ((signalboxref1_one.f (a2 != 0)).bind fun bt175 => (some (bt175.1, bt175.2))) else ((signalboxref1_one.f true).bind fun bt177 => (some (bt177.1, bt177.2)))) else (if a0 = 23 then ((signalboxref1_one.f (a1 == 0)).bind fun bt179 => (some (bt179.1, bt179.2))) else (some (0, 1))))))))))))))))
theorem signalboxref1_Do.mono : ∀ a0 a1 a2 k, LeO (signalboxref1_Do.f k a0 a1 a2) (signalboxref1_Do.f (k + 1) a0 a1 a2) := by
  intro a0 a1 a2 k
  unfold signalboxref1_Do.f
  repeat' first
      | (with_reducible exact signalboxref1_Mul.mono _ _ _)
      | (with_reducible exact LeO.refl _)
      | (with_reducible exact LeO.none _)
      | (with_reducible refine LeO.ite ?_ ?_)
      | (with_reducible refine LeO.bind ?_ (fun _ => ?_))
      | exact signalboxref1_Mul.mono _ _ _
      | exact LeO.none _
      | refine LeO.ite ?_ ?_
      | refine LeO.bind ?_ (fun _ => ?_)
set_option maxHeartbeats 8000000 in
set_option maxRecDepth 100000 in
theorem signalboxref1_Do.calls (k : Nat) (a0 : Int) (a1 : Int) (a2 : Int) (r1 : Int) (r2 : Int) (w : World) (h : signalboxref1_Do.f k a0 a1 a2 = some (r1, r2)) :
    Calls Try.prog 21 #[.int .i64 a0, .int .i64 a1, .int .i64 a2] w fun e w' => e = .returned (.tuple #[.int .i64 r1, .int .i64 r2]) ∧ Drawn0 w w' := by
  have H : (if a0 = 9 then ((signalboxref1_Add.f a1 a2).bind fun bt147 => (some (bt147.1, bt147.2))) else (if a0 = 10 then ((signalboxref1_Sub.f a1 a2).bind fun bt149 => (some (bt149.1, bt149.2))) else (if a0 = 11 then ((signalboxref1_Mul.f k a1 a2).bind fun bt151 => (some (bt151.1, bt151.2))) else (if a0 = 12 then ((signalboxref1_Div.f a1 a2).bind fun bt153 => (some (bt153.1, bt153.2))) else (if a0 = 13 then ((signalboxref1_Mod.f a1 a2).bind fun bt155 => (some (bt155.1, bt155.2))) else (if a0 = 14 then ((signalboxref1_Sub.f 0 a1).bind fun bt157 => (some (bt157.1, bt157.2))) else (if a0 = 15 then ((signalboxref1_one.f (a1 == a2)).bind fun bt159 => (some (bt159.1, bt159.2))) else (if a0 = 16 then ((signalboxref1_one.f (a1 != a2)).bind fun bt161 => (some (bt161.1, bt161.2))) else (if a0 = 17 then ((signalboxref1_one.f (decide (a1 < a2))).bind fun bt163 => (some (bt163.1, bt163.2))) else (if a0 = 18 then ((signalboxref1_one.f (decide (a1 ≤ a2))).bind fun bt165 => (some (bt165.1, bt165.2))) else (if a0 = 19 then ((signalboxref1_one.f (decide (a1 > a2))).bind fun bt167 => (some (bt167.1, bt167.2))) else (if a0 = 20 then ((signalboxref1_one.f (decide (a1 ≥ a2))).bind fun bt169 => (some (bt169.1, bt169.2))) else (if a0 = 21 then (if a1 = 0 then ((signalboxref1_one.f false).bind fun bt171 => (some (bt171.1, bt171.2))) else ((signalboxref1_one.f (a2 != 0)).bind fun bt173 => (some (bt173.1, bt173.2)))) else (if a0 = 22 then (if a1 = 0 then ((signalboxref1_one.f (a2 != 0)).bind fun bt175 => (some (bt175.1, bt175.2))) else ((signalboxref1_one.f true).bind fun bt177 => (some (bt177.1, bt177.2)))) else (if a0 = 23 then ((signalboxref1_one.f (a1 == 0)).bind fun bt179 => (some (bt179.1, bt179.2))) else (some (0, 1))))))))))))))))) = some (r1, r2) := h
  clear h
  by_cases c4 : a0 = 9
  · rw [if_pos c4] at H
    have c4b0 : (a0 == 9) = true := beq_iff_eq.mpr c4
    have c4b1 : (a0 != 9) = false := bne_eq_false_iff_eq.mpr c4
    clear c4
    replace H := Option.bind_eq_some_iff.mp H
    obtain ⟨⟨t147, t148⟩, A50, H⟩ := H
    replace H : (some (t147, t148)) = some (r1, r2) := H
    have A5 := Aside0.mk A50
    clear A50
    simp only [Option.some.injEq, Prod.mk.injEq] at H
    obtain ⟨rfl, rfl⟩ := H
    go_enter Try.func21, Try.ntmps21
    go_wp2_with (first | ((with_reducible refine gate_callee (f := 15) rfl ?_); refine goesL_ (some 13) rfl rfl Try.func15 (by kernel_rfl) rfl #[.int .i64 a1, .int .i64 a2] rfl (by (try simp only [List.map_toArray, List.map_cons, List.map_nil]); first | done | rfl | (simp only [List.length_drop, List.length_take]; rfl)) ?_; (with_reducible refine (signalboxref1_Add.calls a1 a2 t147 t148 _ A5.out).mono ?_); rintro e w' ⟨rfl, ⟨nd, rfl⟩⟩; refine ⟨_, rfl, ?_⟩))
    go_ret2
    exact ⟨by first | rfl | (simp; done) | (simp [*]; done), by repeat (first | exact Drawn0.refl _ | apply Drawn0.step)⟩
  · rw [if_neg c4] at H
    have c4b0 : (a0 == 9) = false := beq_eq_false_iff_ne.mpr c4
    have c4b1 : (a0 != 9) = true := bne_iff_ne.mpr c4
    by_cases c6 : a0 = 10
    · rw [if_pos c6] at H
      have c6b0 : (a0 == 10) = true := beq_iff_eq.mpr c6
      have c6b1 : (a0 != 10) = false := bne_eq_false_iff_eq.mpr c6
      clear c6
      replace H := Option.bind_eq_some_iff.mp H
      obtain ⟨⟨t149, t150⟩, A70, H⟩ := H
      replace H : (some (t149, t150)) = some (r1, r2) := H
      have A7 := Aside0.mk A70
      clear A70
      simp only [Option.some.injEq, Prod.mk.injEq] at H
      obtain ⟨rfl, rfl⟩ := H
      go_enter Try.func21, Try.ntmps21
      go_wp2_with (first | ((with_reducible refine gate_callee (f := 16) rfl ?_); refine goesL_ (some 20) rfl rfl Try.func16 (by kernel_rfl) rfl #[.int .i64 a1, .int .i64 a2] rfl (by (try simp only [List.map_toArray, List.map_cons, List.map_nil]); first | done | rfl | (simp only [List.length_drop, List.length_take]; rfl)) ?_; (with_reducible refine (signalboxref1_Sub.calls a1 a2 t149 t150 _ A7.out).mono ?_); rintro e w' ⟨rfl, ⟨nd, rfl⟩⟩; refine ⟨_, rfl, ?_⟩))
      go_ret2
      exact ⟨by first | rfl | (simp; done) | (simp [*]; done), by repeat (first | exact Drawn0.refl _ | apply Drawn0.step)⟩
    · rw [if_neg c6] at H
      have c6b0 : (a0 == 10) = false := beq_eq_false_iff_ne.mpr c6
      have c6b1 : (a0 != 10) = true := bne_iff_ne.mpr c6
      by_cases c8 : a0 = 11
      · rw [if_pos c8] at H
        have c8b0 : (a0 == 11) = true := beq_iff_eq.mpr c8
        have c8b1 : (a0 != 11) = false := bne_eq_false_iff_eq.mpr c8
        clear c8
        replace H := Option.bind_eq_some_iff.mp H
        obtain ⟨⟨t151, t152⟩, A90, H⟩ := H
        replace H : (some (t151, t152)) = some (r1, r2) := H
        have A9 := Aside0.mk A90
        clear A90
        simp only [Option.some.injEq, Prod.mk.injEq] at H
        obtain ⟨rfl, rfl⟩ := H
        go_enter Try.func21, Try.ntmps21
        go_wp2_with (first | ((with_reducible refine gate_callee (f := 17) rfl ?_); refine goesL_ (some 27) rfl rfl Try.func17 (by kernel_rfl) rfl #[.int .i64 a1, .int .i64 a2] rfl (by (try simp only [List.map_toArray, List.map_cons, List.map_nil]); first | done | rfl | (simp only [List.length_drop, List.length_take]; rfl)) ?_; (with_reducible refine (signalboxref1_Mul.calls k a1 a2 t151 t152 _ A9.out).mono ?_); rintro e w' ⟨rfl, ⟨nd, rfl⟩⟩; refine ⟨_, rfl, ?_⟩))
        go_ret2
        exact ⟨by first | rfl | (simp; done) | (simp [*]; done), by repeat (first | exact Drawn0.refl _ | apply Drawn0.step)⟩
      · rw [if_neg c8] at H
        have c8b0 : (a0 == 11) = false := beq_eq_false_iff_ne.mpr c8
        have c8b1 : (a0 != 11) = true := bne_iff_ne.mpr c8
        by_cases c10 : a0 = 12
        · rw [if_pos c10] at H
          have c10b0 : (a0 == 12) = true := beq_iff_eq.mpr c10
          have c10b1 : (a0 != 12) = false := bne_eq_false_iff_eq.mpr c10
          clear c10
          replace H := Option.bind_eq_some_iff.mp H
          obtain ⟨⟨t153, t154⟩, A110, H⟩ := H
          replace H : (some (t153, t154)) = some (r1, r2) := H
          have A11 := Aside0.mk A110
          clear A110
          simp only [Option.some.injEq, Prod.mk.injEq] at H
          obtain ⟨rfl, rfl⟩ := H
          go_enter Try.func21, Try.ntmps21
          go_wp2_with (first | ((with_reducible refine gate_callee (f := 18) rfl ?_); refine goesL_ (some 34) rfl rfl Try.func18 (by kernel_rfl) rfl #[.int .i64 a1, .int .i64 a2] rfl (by (try simp only [List.map_toArray, List.map_cons, List.map_nil]); first | done | rfl | (simp only [List.length_drop, List.length_take]; rfl)) ?_; (with_reducible refine (signalboxref1_Div.calls a1 a2 t153 t154 _ A11.out).mono ?_); rintro e w' ⟨rfl, ⟨nd, rfl⟩⟩; refine ⟨_, rfl, ?_⟩))
          go_ret2
          exact ⟨by first | rfl | (simp; done) | (simp [*]; done), by repeat (first | exact Drawn0.refl _ | apply Drawn0.step)⟩
        · rw [if_neg c10] at H
          have c10b0 : (a0 == 12) = false := beq_eq_false_iff_ne.mpr c10
          have c10b1 : (a0 != 12) = true := bne_iff_ne.mpr c10
          by_cases c12 : a0 = 13
          · rw [if_pos c12] at H
            have c12b0 : (a0 == 13) = true := beq_iff_eq.mpr c12
            have c12b1 : (a0 != 13) = false := bne_eq_false_iff_eq.mpr c12
            clear c12
            replace H := Option.bind_eq_some_iff.mp H
            obtain ⟨⟨t155, t156⟩, A130, H⟩ := H
            replace H : (some (t155, t156)) = some (r1, r2) := H
            have A13 := Aside0.mk A130
            clear A130
            simp only [Option.some.injEq, Prod.mk.injEq] at H
            obtain ⟨rfl, rfl⟩ := H
            go_enter Try.func21, Try.ntmps21
            go_wp2_with (first | ((with_reducible refine gate_callee (f := 19) rfl ?_); refine goesL_ (some 41) rfl rfl Try.func19 (by kernel_rfl) rfl #[.int .i64 a1, .int .i64 a2] rfl (by (try simp only [List.map_toArray, List.map_cons, List.map_nil]); first | done | rfl | (simp only [List.length_drop, List.length_take]; rfl)) ?_; (with_reducible refine (signalboxref1_Mod.calls a1 a2 t155 t156 _ A13.out).mono ?_); rintro e w' ⟨rfl, ⟨nd, rfl⟩⟩; refine ⟨_, rfl, ?_⟩))
            go_ret2
            exact ⟨by first | rfl | (simp; done) | (simp [*]; done), by repeat (first | exact Drawn0.refl _ | apply Drawn0.step)⟩
          · rw [if_neg c12] at H
            have c12b0 : (a0 == 13) = false := beq_eq_false_iff_ne.mpr c12
            have c12b1 : (a0 != 13) = true := bne_iff_ne.mpr c12
            by_cases c14 : a0 = 14
            · rw [if_pos c14] at H
              have c14b0 : (a0 == 14) = true := beq_iff_eq.mpr c14
              have c14b1 : (a0 != 14) = false := bne_eq_false_iff_eq.mpr c14
              clear c14
              replace H := Option.bind_eq_some_iff.mp H
              obtain ⟨⟨t157, t158⟩, A150, H⟩ := H
              replace H : (some (t157, t158)) = some (r1, r2) := H
              have A15 := Aside0.mk A150
              clear A150
              simp only [Option.some.injEq, Prod.mk.injEq] at H
              obtain ⟨rfl, rfl⟩ := H
              go_enter Try.func21, Try.ntmps21
              go_wp2_with (first | ((with_reducible refine gate_callee (f := 16) rfl ?_); refine goesL_ (some 47) rfl rfl Try.func16 (by kernel_rfl) rfl #[.int .i64 0, .int .i64 a1] rfl (by (try simp only [List.map_toArray, List.map_cons, List.map_nil]); first | done | rfl | (simp only [List.length_drop, List.length_take]; rfl)) ?_; (with_reducible refine (signalboxref1_Sub.calls 0 a1 t157 t158 _ A15.out).mono ?_); rintro e w' ⟨rfl, ⟨nd, rfl⟩⟩; refine ⟨_, rfl, ?_⟩))
              go_ret2
              exact ⟨by first | rfl | (simp; done) | (simp [*]; done), by repeat (first | exact Drawn0.refl _ | apply Drawn0.step)⟩
            · rw [if_neg c14] at H
              have c14b0 : (a0 == 14) = false := beq_eq_false_iff_ne.mpr c14
              have c14b1 : (a0 != 14) = true := bne_iff_ne.mpr c14
              by_cases c16 : a0 = 15
              · rw [if_pos c16] at H
                have c16b0 : (a0 == 15) = true := beq_iff_eq.mpr c16
                have c16b1 : (a0 != 15) = false := bne_eq_false_iff_eq.mpr c16
                clear c16
                replace H := Option.bind_eq_some_iff.mp H
                obtain ⟨⟨t159, t160⟩, A170, H⟩ := H
                replace H : (some (t159, t160)) = some (r1, r2) := H
                have A17 := Aside0.mk A170
                clear A170
                simp only [Option.some.injEq, Prod.mk.injEq] at H
                obtain ⟨rfl, rfl⟩ := H
                go_enter Try.func21, Try.ntmps21
                go_wp2_with (first | ((with_reducible refine gate_callee (f := 25) rfl ?_); refine goesL_ (some 55) rfl rfl Try.func25 (by kernel_rfl) rfl #[.bool (a1 == a2)] rfl (by (try simp only [List.map_toArray, List.map_cons, List.map_nil]); first | done | rfl | (simp only [List.length_drop, List.length_take]; rfl)) ?_; (with_reducible refine (signalboxref1_one.calls (a1 == a2) t159 t160 _ A17.out).mono ?_); rintro e w' ⟨rfl, ⟨nd, rfl⟩⟩; refine ⟨_, rfl, ?_⟩))
                go_ret2
                exact ⟨by first | rfl | (simp; done) | (simp [*]; done), by repeat (first | exact Drawn0.refl _ | apply Drawn0.step)⟩
              · rw [if_neg c16] at H
                have c16b0 : (a0 == 15) = false := beq_eq_false_iff_ne.mpr c16
                have c16b1 : (a0 != 15) = true := bne_iff_ne.mpr c16
                by_cases c18 : a0 = 16
                · rw [if_pos c18] at H
                  have c18b0 : (a0 == 16) = true := beq_iff_eq.mpr c18
                  have c18b1 : (a0 != 16) = false := bne_eq_false_iff_eq.mpr c18
                  clear c18
                  replace H := Option.bind_eq_some_iff.mp H
                  obtain ⟨⟨t161, t162⟩, A190, H⟩ := H
                  replace H : (some (t161, t162)) = some (r1, r2) := H
                  have A19 := Aside0.mk A190
                  clear A190
                  simp only [Option.some.injEq, Prod.mk.injEq] at H
                  obtain ⟨rfl, rfl⟩ := H
                  go_enter Try.func21, Try.ntmps21
                  go_wp2_with (first | ((with_reducible refine gate_callee (f := 25) rfl ?_); refine goesL_ (some 63) rfl rfl Try.func25 (by kernel_rfl) rfl #[.bool (a1 != a2)] rfl (by (try simp only [List.map_toArray, List.map_cons, List.map_nil]); first | done | rfl | (simp only [List.length_drop, List.length_take]; rfl)) ?_; (with_reducible refine (signalboxref1_one.calls (a1 != a2) t161 t162 _ A19.out).mono ?_); rintro e w' ⟨rfl, ⟨nd, rfl⟩⟩; refine ⟨_, rfl, ?_⟩))
                  go_ret2
                  exact ⟨by first | rfl | (simp; done) | (simp [*]; done), by repeat (first | exact Drawn0.refl _ | apply Drawn0.step)⟩
                · rw [if_neg c18] at H
                  have c18b0 : (a0 == 16) = false := beq_eq_false_iff_ne.mpr c18
                  have c18b1 : (a0 != 16) = true := bne_iff_ne.mpr c18
                  by_cases c20 : a0 = 17
                  · rw [if_pos c20] at H
                    have c20b0 : (a0 == 17) = true := beq_iff_eq.mpr c20
                    have c20b1 : (a0 != 17) = false := bne_eq_false_iff_eq.mpr c20
                    clear c20
                    replace H := Option.bind_eq_some_iff.mp H
                    obtain ⟨⟨t163, t164⟩, A210, H⟩ := H
                    replace H : (some (t163, t164)) = some (r1, r2) := H
                    have A21 := Aside0.mk A210
                    clear A210
                    simp only [Option.some.injEq, Prod.mk.injEq] at H
                    obtain ⟨rfl, rfl⟩ := H
                    go_enter Try.func21, Try.ntmps21
                    go_wp2_with (first | ((with_reducible refine gate_callee (f := 25) rfl ?_); refine goesL_ (some 71) rfl rfl Try.func25 (by kernel_rfl) rfl #[.bool (decide (a1 < a2))] rfl (by (try simp only [List.map_toArray, List.map_cons, List.map_nil]); first | done | rfl | (simp only [List.length_drop, List.length_take]; rfl)) ?_; (with_reducible refine (signalboxref1_one.calls (decide (a1 < a2)) t163 t164 _ A21.out).mono ?_); rintro e w' ⟨rfl, ⟨nd, rfl⟩⟩; refine ⟨_, rfl, ?_⟩))
                    go_ret2
                    exact ⟨by first | rfl | (simp; done) | (simp [*]; done), by repeat (first | exact Drawn0.refl _ | apply Drawn0.step)⟩
                  · rw [if_neg c20] at H
                    have c20b0 : (a0 == 17) = false := beq_eq_false_iff_ne.mpr c20
                    have c20b1 : (a0 != 17) = true := bne_iff_ne.mpr c20
                    by_cases c22 : a0 = 18
                    · rw [if_pos c22] at H
                      have c22b0 : (a0 == 18) = true := beq_iff_eq.mpr c22
                      have c22b1 : (a0 != 18) = false := bne_eq_false_iff_eq.mpr c22
                      clear c22
                      replace H := Option.bind_eq_some_iff.mp H
                      obtain ⟨⟨t165, t166⟩, A230, H⟩ := H
                      replace H : (some (t165, t166)) = some (r1, r2) := H
                      have A23 := Aside0.mk A230
                      clear A230
                      simp only [Option.some.injEq, Prod.mk.injEq] at H
                      obtain ⟨rfl, rfl⟩ := H
                      go_enter Try.func21, Try.ntmps21
                      go_wp2_with (first | ((with_reducible refine gate_callee (f := 25) rfl ?_); refine goesL_ (some 79) rfl rfl Try.func25 (by kernel_rfl) rfl #[.bool (decide (a1 ≤ a2))] rfl (by (try simp only [List.map_toArray, List.map_cons, List.map_nil]); first | done | rfl | (simp only [List.length_drop, List.length_take]; rfl)) ?_; (with_reducible refine (signalboxref1_one.calls (decide (a1 ≤ a2)) t165 t166 _ A23.out).mono ?_); rintro e w' ⟨rfl, ⟨nd, rfl⟩⟩; refine ⟨_, rfl, ?_⟩))
                      go_ret2
                      exact ⟨by first | rfl | (simp; done) | (simp [*]; done), by repeat (first | exact Drawn0.refl _ | apply Drawn0.step)⟩
                    · rw [if_neg c22] at H
                      have c22b0 : (a0 == 18) = false := beq_eq_false_iff_ne.mpr c22
                      have c22b1 : (a0 != 18) = true := bne_iff_ne.mpr c22
                      by_cases c24 : a0 = 19
                      · rw [if_pos c24] at H
                        have c24b0 : (a0 == 19) = true := beq_iff_eq.mpr c24
                        have c24b1 : (a0 != 19) = false := bne_eq_false_iff_eq.mpr c24
                        clear c24
                        replace H := Option.bind_eq_some_iff.mp H
                        obtain ⟨⟨t167, t168⟩, A250, H⟩ := H
                        replace H : (some (t167, t168)) = some (r1, r2) := H
                        have A25 := Aside0.mk A250
                        clear A250
                        simp only [Option.some.injEq, Prod.mk.injEq] at H
                        obtain ⟨rfl, rfl⟩ := H
                        go_enter Try.func21, Try.ntmps21
                        go_wp2_with (first | ((with_reducible refine gate_callee (f := 25) rfl ?_); refine goesL_ (some 87) rfl rfl Try.func25 (by kernel_rfl) rfl #[.bool (decide (a1 > a2))] rfl (by (try simp only [List.map_toArray, List.map_cons, List.map_nil]); first | done | rfl | (simp only [List.length_drop, List.length_take]; rfl)) ?_; (with_reducible refine (signalboxref1_one.calls (decide (a1 > a2)) t167 t168 _ A25.out).mono ?_); rintro e w' ⟨rfl, ⟨nd, rfl⟩⟩; refine ⟨_, rfl, ?_⟩))
                        go_ret2
                        exact ⟨by first | rfl | (simp; done) | (simp [*]; done), by repeat (first | exact Drawn0.refl _ | apply Drawn0.step)⟩
                      · rw [if_neg c24] at H
                        have c24b0 : (a0 == 19) = false := beq_eq_false_iff_ne.mpr c24
                        have c24b1 : (a0 != 19) = true := bne_iff_ne.mpr c24
                        by_cases c26 : a0 = 20
                        · rw [if_pos c26] at H
                          have c26b0 : (a0 == 20) = true := beq_iff_eq.mpr c26
                          have c26b1 : (a0 != 20) = false := bne_eq_false_iff_eq.mpr c26
                          clear c26
                          replace H := Option.bind_eq_some_iff.mp H
                          obtain ⟨⟨t169, t170⟩, A270, H⟩ := H
                          replace H : (some (t169, t170)) = some (r1, r2) := H
                          have A27 := Aside0.mk A270
                          clear A270
                          simp only [Option.some.injEq, Prod.mk.injEq] at H
                          obtain ⟨rfl, rfl⟩ := H
                          go_enter Try.func21, Try.ntmps21
                          go_wp2_with (first | ((with_reducible refine gate_callee (f := 25) rfl ?_); refine goesL_ (some 95) rfl rfl Try.func25 (by kernel_rfl) rfl #[.bool (decide (a1 ≥ a2))] rfl (by (try simp only [List.map_toArray, List.map_cons, List.map_nil]); first | done | rfl | (simp only [List.length_drop, List.length_take]; rfl)) ?_; (with_reducible refine (signalboxref1_one.calls (decide (a1 ≥ a2)) t169 t170 _ A27.out).mono ?_); rintro e w' ⟨rfl, ⟨nd, rfl⟩⟩; refine ⟨_, rfl, ?_⟩))
                          go_ret2
                          exact ⟨by first | rfl | (simp; done) | (simp [*]; done), by repeat (first | exact Drawn0.refl _ | apply Drawn0.step)⟩
                        · rw [if_neg c26] at H
                          have c26b0 : (a0 == 20) = false := beq_eq_false_iff_ne.mpr c26
                          have c26b1 : (a0 != 20) = true := bne_iff_ne.mpr c26
                          by_cases c28 : a0 = 21
                          · rw [if_pos c28] at H
                            have c28b0 : (a0 == 21) = true := beq_iff_eq.mpr c28
                            have c28b1 : (a0 != 21) = false := bne_eq_false_iff_eq.mpr c28
                            clear c28
                            by_cases c29 : a1 = 0
                            · rw [if_pos c29] at H
                              have c29b0 : (a1 == 0) = true := beq_iff_eq.mpr c29
                              have c29b1 : (a1 != 0) = false := bne_eq_false_iff_eq.mpr c29
                              clear c29
                              replace H := Option.bind_eq_some_iff.mp H
                              obtain ⟨⟨t171, t172⟩, A300, H⟩ := H
                              replace H : (some (t171, t172)) = some (r1, r2) := H
                              have A30 := Aside0.mk A300
                              clear A300
                              simp only [Option.some.injEq, Prod.mk.injEq] at H
                              obtain ⟨rfl, rfl⟩ := H
                              go_enter Try.func21, Try.ntmps21
                              go_wp2_with (first | ((with_reducible refine gate_callee (f := 25) rfl ?_); refine goesL_ (some 106) rfl rfl Try.func25 (by kernel_rfl) rfl #[.bool false] rfl (by (try simp only [List.map_toArray, List.map_cons, List.map_nil]); first | done | rfl | (simp only [List.length_drop, List.length_take]; rfl)) ?_; (with_reducible refine (signalboxref1_one.calls false t171 t172 _ A30.out).mono ?_); rintro e w' ⟨rfl, ⟨nd, rfl⟩⟩; refine ⟨_, rfl, ?_⟩))
                              go_ret2
                              exact ⟨by first | rfl | (simp; done) | (simp [*]; done), by repeat (first | exact Drawn0.refl _ | apply Drawn0.step)⟩
                            · rw [if_neg c29] at H
                              have c29b0 : (a1 == 0) = false := beq_eq_false_iff_ne.mpr c29
                              have c29b1 : (a1 != 0) = true := bne_iff_ne.mpr c29
                              replace H := Option.bind_eq_some_iff.mp H
                              obtain ⟨⟨t173, t174⟩, A310, H⟩ := H
                              replace H : (some (t173, t174)) = some (r1, r2) := H
                              have A31 := Aside0.mk A310
                              clear A310
                              simp only [Option.some.injEq, Prod.mk.injEq] at H
                              obtain ⟨rfl, rfl⟩ := H
                              go_enter Try.func21, Try.ntmps21
                              go_wp2_with (first | ((with_reducible refine gate_callee (f := 25) rfl ?_); refine goesL_ (some 106) rfl rfl Try.func25 (by kernel_rfl) rfl #[.bool (a2 != 0)] rfl (by (try simp only [List.map_toArray, List.map_cons, List.map_nil]); first | done | rfl | (simp only [List.length_drop, List.length_take]; rfl)) ?_; (with_reducible refine (signalboxref1_one.calls (a2 != 0) t173 t174 _ A31.out).mono ?_); rintro e w' ⟨rfl, ⟨nd, rfl⟩⟩; refine ⟨_, rfl, ?_⟩))
                              go_ret2
                              exact ⟨by first | rfl | (simp; done) | (simp [*]; done), by repeat (first | exact Drawn0.refl _ | apply Drawn0.step)⟩
                          · rw [if_neg c28] at H
                            have c28b0 : (a0 == 21) = false := beq_eq_false_iff_ne.mpr c28
                            have c28b1 : (a0 != 21) = true := bne_iff_ne.mpr c28
                            by_cases c32 : a0 = 22
                            · rw [if_pos c32] at H
                              have c32b0 : (a0 == 22) = true := beq_iff_eq.mpr c32
                              have c32b1 : (a0 != 22) = false := bne_eq_false_iff_eq.mpr c32
                              clear c32
                              by_cases c33 : a1 = 0
                              · rw [if_pos c33] at H
                                have c33b0 : (a1 == 0) = true := beq_iff_eq.mpr c33
                                have c33b1 : (a1 != 0) = false := bne_eq_false_iff_eq.mpr c33
                                clear c33
                                replace H := Option.bind_eq_some_iff.mp H
                                obtain ⟨⟨t175, t176⟩, A340, H⟩ := H
                                replace H : (some (t175, t176)) = some (r1, r2) := H
                                have A34 := Aside0.mk A340
                                clear A340
                                simp only [Option.some.injEq, Prod.mk.injEq] at H
                                obtain ⟨rfl, rfl⟩ := H
                                go_enter Try.func21, Try.ntmps21
                                go_wp2_with (first | ((with_reducible refine gate_callee (f := 25) rfl ?_); refine goesL_ (some 117) rfl rfl Try.func25 (by kernel_rfl) rfl #[.bool (a2 != 0)] rfl (by (try simp only [List.map_toArray, List.map_cons, List.map_nil]); first | done | rfl | (simp only [List.length_drop, List.length_take]; rfl)) ?_; (with_reducible refine (signalboxref1_one.calls (a2 != 0) t175 t176 _ A34.out).mono ?_); rintro e w' ⟨rfl, ⟨nd, rfl⟩⟩; refine ⟨_, rfl, ?_⟩))
                                go_ret2
                                exact ⟨by first | rfl | (simp; done) | (simp [*]; done), by repeat (first | exact Drawn0.refl _ | apply Drawn0.step)⟩
                              · rw [if_neg c33] at H
                                have c33b0 : (a1 == 0) = false := beq_eq_false_iff_ne.mpr c33
                                have c33b1 : (a1 != 0) = true := bne_iff_ne.mpr c33
                                replace H := Option.bind_eq_some_iff.mp H
                                obtain ⟨⟨t177, t178⟩, A350, H⟩ := H
                                replace H : (some (t177, t178)) = some (r1, r2) := H
                                have A35 := Aside0.mk A350
                                clear A350
                                simp only [Option.some.injEq, Prod.mk.injEq] at H
                                obtain ⟨rfl, rfl⟩ := H
                                go_enter Try.func21, Try.ntmps21
                                go_wp2_with (first | ((with_reducible refine gate_callee (f := 25) rfl ?_); refine goesL_ (some 117) rfl rfl Try.func25 (by kernel_rfl) rfl #[.bool true] rfl (by (try simp only [List.map_toArray, List.map_cons, List.map_nil]); first | done | rfl | (simp only [List.length_drop, List.length_take]; rfl)) ?_; (with_reducible refine (signalboxref1_one.calls true t177 t178 _ A35.out).mono ?_); rintro e w' ⟨rfl, ⟨nd, rfl⟩⟩; refine ⟨_, rfl, ?_⟩))
                                go_ret2
                                exact ⟨by first | rfl | (simp; done) | (simp [*]; done), by repeat (first | exact Drawn0.refl _ | apply Drawn0.step)⟩
                            · rw [if_neg c32] at H
                              have c32b0 : (a0 == 22) = false := beq_eq_false_iff_ne.mpr c32
                              have c32b1 : (a0 != 22) = true := bne_iff_ne.mpr c32
                              by_cases c36 : a0 = 23
                              · rw [if_pos c36] at H
                                have c36b0 : (a0 == 23) = true := beq_iff_eq.mpr c36
                                have c36b1 : (a0 != 23) = false := bne_eq_false_iff_eq.mpr c36
                                clear c36
                                replace H := Option.bind_eq_some_iff.mp H
                                obtain ⟨⟨t179, t180⟩, A370, H⟩ := H
                                replace H : (some (t179, t180)) = some (r1, r2) := H
                                have A37 := Aside0.mk A370
                                clear A370
                                simp only [Option.some.injEq, Prod.mk.injEq] at H
                                obtain ⟨rfl, rfl⟩ := H
                                go_enter Try.func21, Try.ntmps21
                                go_wp2_with (first | ((with_reducible refine gate_callee (f := 25) rfl ?_); refine goesL_ (some 124) rfl rfl Try.func25 (by kernel_rfl) rfl #[.bool (a1 == 0)] rfl (by (try simp only [List.map_toArray, List.map_cons, List.map_nil]); first | done | rfl | (simp only [List.length_drop, List.length_take]; rfl)) ?_; (with_reducible refine (signalboxref1_one.calls (a1 == 0) t179 t180 _ A37.out).mono ?_); rintro e w' ⟨rfl, ⟨nd, rfl⟩⟩; refine ⟨_, rfl, ?_⟩))
                                go_ret2
                                exact ⟨by first | rfl | (simp; done) | (simp [*]; done), by repeat (first | exact Drawn0.refl _ | apply Drawn0.step)⟩
                              · rw [if_neg c36] at H
                                have c36b0 : (a0 == 23) = false := beq_eq_false_iff_ne.mpr c36
                                have c36b1 : (a0 != 23) = true := bne_iff_ne.mpr c36
                                simp only [Option.some.injEq, Prod.mk.injEq] at H
                                obtain ⟨rfl, rfl⟩ := H
                                go_enter Try.func21, Try.ntmps21
                                go_wp2
                                go_ret2
                                exact ⟨by first | rfl | (simp; done) | (simp [*]; done), by repeat (first | exact Drawn0.refl _ | apply Drawn0.step)⟩

/-! ### signalboxlaw1_ArithDoes: function 7 -/
def signalboxlaw1_ArithDoes.f (k : Nat) (a0 : Int) (a1 : Int) (a2 : Int) : Option (Bool) := (arith_Do.f k a0 a1 a2).bind fun bt181 => ((signalboxref1_Do.f k a0 a1 a2).bind fun bt183 => (if bt181.1 = bt183.1 then (if bt181.2 = bt183.2 then ((signalboxlaw1_awake.f k).bind fun t185 => (some t185)) else (some false)) else (some false)))
theorem signalboxlaw1_ArithDoes.mono : ∀ a0 a1 a2 k, LeO (signalboxlaw1_ArithDoes.f k a0 a1 a2) (signalboxlaw1_ArithDoes.f (k + 1) a0 a1 a2) := by
  intro a0 a1 a2 k
  unfold signalboxlaw1_ArithDoes.f
  repeat' first
      | (with_reducible exact arith_Do.mono _ _ _ _)
      | (with_reducible exact signalboxlaw1_awake.mono _)
      | (with_reducible exact signalboxref1_Do.mono _ _ _ _)
      | (with_reducible exact LeO.refl _)
      | (with_reducible exact LeO.none _)
      | (with_reducible refine LeO.ite ?_ ?_)
      | (with_reducible refine LeO.bind ?_ (fun _ => ?_))
      | exact arith_Do.mono _ _ _ _
      | exact signalboxlaw1_awake.mono _
      | exact signalboxref1_Do.mono _ _ _ _
      | exact LeO.none _
      | refine LeO.ite ?_ ?_
      | refine LeO.bind ?_ (fun _ => ?_)
set_option maxHeartbeats 8000000 in
set_option maxRecDepth 100000 in
theorem signalboxlaw1_ArithDoes.calls (k : Nat) (a0 : Int) (a1 : Int) (a2 : Int) (r : Bool) (w : World) (h : signalboxlaw1_ArithDoes.f k a0 a1 a2 = some r) :
    Calls Try.prog 7 #[.int .i64 a0, .int .i64 a1, .int .i64 a2] w fun e w' => e = .returned (.bool r) ∧ Drawn0 w w' := by
  have H : ((arith_Do.f k a0 a1 a2).bind fun bt181 => ((signalboxref1_Do.f k a0 a1 a2).bind fun bt183 => (if bt181.1 = bt183.1 then (if bt181.2 = bt183.2 then ((signalboxlaw1_awake.f k).bind fun t185 => (some t185)) else (some false)) else (some false)))) = some r := h
  clear h
  replace H := Option.bind_eq_some_iff.mp H
  obtain ⟨⟨t181, t182⟩, A40, H⟩ := H
  replace H : ((signalboxref1_Do.f k a0 a1 a2).bind fun bt183 => (if t181 = bt183.1 then (if t182 = bt183.2 then ((signalboxlaw1_awake.f k).bind fun t185 => (some t185)) else (some false)) else (some false))) = some r := H
  have A4 := Aside0.mk A40
  clear A40
  replace H := Option.bind_eq_some_iff.mp H
  obtain ⟨⟨t183, t184⟩, A50, H⟩ := H
  replace H : (if t181 = t183 then (if t182 = t184 then ((signalboxlaw1_awake.f k).bind fun t185 => (some t185)) else (some false)) else (some false)) = some r := H
  have A5 := Aside0.mk A50
  clear A50
  by_cases c6 : t181 = t183
  · rw [if_pos c6] at H
    have c6b0 : (t181 == t183) = true := beq_iff_eq.mpr c6
    have c6b1 : (t181 != t183) = false := bne_eq_false_iff_eq.mpr c6
    clear c6
    by_cases c7 : t182 = t184
    · rw [if_pos c7] at H
      have c7b0 : (t182 == t184) = true := beq_iff_eq.mpr c7
      have c7b1 : (t182 != t184) = false := bne_eq_false_iff_eq.mpr c7
      clear c7
      replace H := Option.bind_eq_some_iff.mp H
      obtain ⟨t185, A80, H⟩ := H
      replace H : (some t185) = some r := H
      have A8 := Aside0.mk A80
      clear A80
      obtain rfl := Option.some.inj H
      go_enter Try.func7, Try.ntmps7
      go_wp2_with (first | ((with_reducible refine gate_callee (f := 14) rfl ?_); refine goesL_ (some 15) rfl rfl Try.func14 (by kernel_rfl) rfl #[.int .i64 a0, .int .i64 a1, .int .i64 a2] rfl (by (try simp only [List.map_toArray, List.map_cons, List.map_nil]); first | done | rfl | (simp only [List.length_drop, List.length_take]; rfl)) ?_; (with_reducible refine (arith_Do.calls k a0 a1 a2 t181 t182 _ A4.out).mono ?_); rintro e w' ⟨rfl, ⟨nd, rfl⟩⟩; refine ⟨_, rfl, ?_⟩) | ((with_reducible refine gate_callee (f := 21) rfl ?_); refine goesL_ (some 22) rfl rfl Try.func21 (by kernel_rfl) rfl #[.int .i64 a0, .int .i64 a1, .int .i64 a2] rfl (by (try simp only [List.map_toArray, List.map_cons, List.map_nil]); first | done | rfl | (simp only [List.length_drop, List.length_take]; rfl)) ?_; (with_reducible refine (signalboxref1_Do.calls k a0 a1 a2 t183 t184 _ A5.out).mono ?_); rintro e w' ⟨rfl, ⟨nd, rfl⟩⟩; refine ⟨_, rfl, ?_⟩) | (go_at_call 10; (with_reducible refine (signalboxlaw1_awake.calls k  t185 _ A8.out).mono ?_); rintro e w' ⟨rfl, ⟨nd, rfl⟩⟩))
      go_ret
      exact ⟨by first | rfl | (simp; done) | (simp [*]; done), by repeat (first | exact Drawn0.refl _ | apply Drawn0.step)⟩
    · rw [if_neg c7] at H
      have c7b0 : (t182 == t184) = false := beq_eq_false_iff_ne.mpr c7
      have c7b1 : (t182 != t184) = true := bne_iff_ne.mpr c7
      obtain rfl := Option.some.inj H
      go_enter Try.func7, Try.ntmps7
      go_wp2_with (first | ((with_reducible refine gate_callee (f := 14) rfl ?_); refine goesL_ (some 15) rfl rfl Try.func14 (by kernel_rfl) rfl #[.int .i64 a0, .int .i64 a1, .int .i64 a2] rfl (by (try simp only [List.map_toArray, List.map_cons, List.map_nil]); first | done | rfl | (simp only [List.length_drop, List.length_take]; rfl)) ?_; (with_reducible refine (arith_Do.calls k a0 a1 a2 t181 t182 _ A4.out).mono ?_); rintro e w' ⟨rfl, ⟨nd, rfl⟩⟩; refine ⟨_, rfl, ?_⟩) | ((with_reducible refine gate_callee (f := 21) rfl ?_); refine goesL_ (some 22) rfl rfl Try.func21 (by kernel_rfl) rfl #[.int .i64 a0, .int .i64 a1, .int .i64 a2] rfl (by (try simp only [List.map_toArray, List.map_cons, List.map_nil]); first | done | rfl | (simp only [List.length_drop, List.length_take]; rfl)) ?_; (with_reducible refine (signalboxref1_Do.calls k a0 a1 a2 t183 t184 _ A5.out).mono ?_); rintro e w' ⟨rfl, ⟨nd, rfl⟩⟩; refine ⟨_, rfl, ?_⟩))
      go_ret
      exact ⟨by first | rfl | (simp; done) | (simp [*]; done), by repeat (first | exact Drawn0.refl _ | apply Drawn0.step)⟩
  · rw [if_neg c6] at H
    have c6b0 : (t181 == t183) = false := beq_eq_false_iff_ne.mpr c6
    have c6b1 : (t181 != t183) = true := bne_iff_ne.mpr c6
    obtain rfl := Option.some.inj H
    go_enter Try.func7, Try.ntmps7
    go_wp2_with (first | ((with_reducible refine gate_callee (f := 14) rfl ?_); refine goesL_ (some 15) rfl rfl Try.func14 (by kernel_rfl) rfl #[.int .i64 a0, .int .i64 a1, .int .i64 a2] rfl (by (try simp only [List.map_toArray, List.map_cons, List.map_nil]); first | done | rfl | (simp only [List.length_drop, List.length_take]; rfl)) ?_; (with_reducible refine (arith_Do.calls k a0 a1 a2 t181 t182 _ A4.out).mono ?_); rintro e w' ⟨rfl, ⟨nd, rfl⟩⟩; refine ⟨_, rfl, ?_⟩) | ((with_reducible refine gate_callee (f := 21) rfl ?_); refine goesL_ (some 22) rfl rfl Try.func21 (by kernel_rfl) rfl #[.int .i64 a0, .int .i64 a1, .int .i64 a2] rfl (by (try simp only [List.map_toArray, List.map_cons, List.map_nil]); first | done | rfl | (simp only [List.length_drop, List.length_take]; rfl)) ?_; (with_reducible refine (signalboxref1_Do.calls k a0 a1 a2 t183 t184 _ A5.out).mono ?_); rintro e w' ⟨rfl, ⟨nd, rfl⟩⟩; refine ⟨_, rfl, ?_⟩))
    go_ret
    exact ⟨by first | rfl | (simp; done) | (simp [*]; done), by repeat (first | exact Drawn0.refl _ | apply Drawn0.step)⟩

/-- THE ONE PURE STATEMENT of signalboxlaw1_ArithDoes: yours. -/
def signalboxlaw1_ArithDoes.Pure : Prop := ∀ (a0 : Int) (a1 : Int) (a2 : Int), (Lit.int .i64 a0).wf = true → (Lit.int .i64 a1).wf = true → (Lit.int .i64 a2).wf = true → ∃ k, signalboxlaw1_ArithDoes.f k a0 a1 a2 = some true
theorem signalboxlaw1_ArithDoes.walk (P : signalboxlaw1_ArithDoes.Pure) (a0 : Int) (a1 : Int) (a2 : Int) (w : World) (w0 : (Lit.int .i64 a0).wf = true) (w1 : (Lit.int .i64 a1).wf = true) (w2 : (Lit.int .i64 a2).wf = true) :
    Calls Try.prog 7 #[.int .i64 a0, .int .i64 a1, .int .i64 a2] w fun e w' => e = .returned (.bool true) ∧ Below w.heap.size w w' := by
  obtain ⟨k, h⟩ := P a0 a1 a2 w0 w1 w2
  refine (signalboxlaw1_ArithDoes.calls k a0 a1 a2 true w h).mono ?_
  rintro e w' ⟨rfl, hd⟩
  exact ⟨rfl, hd.below⟩

end Go.Proofs.Ytmjljnkkeofngaa.PArithDoes
