import Derived.Test.YtmefkfilclkgeaaBndB
namespace Go.Proofs.Ytmefkfilclkgeaa.bound
open Go.ChangeShapes Go.WideShapes Go.ChangeAt Go.RowKit
set_option linter.unusedVariables false
set_option maxHeartbeats 4000000 in
theorem may_some (b o cap : Nat) (l : List Rg) (hl : l.length ≤ 1152921504606846976) (w : World) (hb : b < w.heap.size) (hc : Cells w b o l) :
    Calls Try.prog 36 #[.slice (some ⟨b, o, none⟩) l.length cap] w fun e w' => e = .returned (.bool (mayB l)) ∧ Below w.heap.size w w' := by
  obtain ⟨n, hn⟩ : ∃ n, l.length = n := ⟨_, rfl⟩
  have HC : Hid (Cells w b o l) := hc
  have HN : Hid (l.length = n) := hn
  rw [hn] at hl ⊢
  clear hc hn
  go_enter Try.func36, Try.ntmps36
  go_wp2
  go_loopw [3, 8] (fun x i wr => Sums w l x i wr) (fun _ i _ => n - (intOf i).toNat)
  case atStart => exact ⟨0, 0, by omega, rfl, rfl, by omega, by omega, rfl, Below.refl _ _⟩
  case round =>
    obtain ⟨k, e, hk, rfl, rfl, he0, he1, hm, hB⟩ := hrel
    have HM : Hid (mayB l = mayK l (l.length - k) k e) := hm
    clear hm
    rw [HN.out] at hk
    by_cases hlt : k < n
    · obtain ⟨hc1, hc2, hc3⟩ := (HC.out.below hB hb).1 k (by rw [HN.out]; exact hlt)
      obtain ⟨⟨r1, r2⟩, ⟨r3, r4⟩, r5, r6⟩ := HC.out.2 k (by rw [HN.out]; exact hlt)
      have HS : Hid (mayB l = (okB l k e && mayK l (l.length - (k + 1)) (k + 1) (e + sizeI l k))) := HM.out.trans (mayK_step l k e (by rw [HN.out]; exact hlt))
      clear HM
      by_cases q1 : (posI l k != e) = true
      · have HF := no_ok HS (by simp [okB, show (posI l k == e) = false by simpa using q1])
        clear HS
        go_wp2
        go_quiet ((go_at_call 37; exact Calls.quiet_of_same (is_walk _ _)))
        go_wp2
        go_ret
        rw [HF.out]
        exact ⟨rfl, Go.below_drewN (hB.alloc hB.size _) _⟩
      have q1 : (posI l k != e) = false := by simpa using q1
      have e1 : (posI l k == e) = true := by simpa using q1
      by_cases q2 : sizeI l k < 1
      · have HF := no_ok HS (by simp [okB, show ¬ (1 ≤ sizeI l k) by omega])
        clear HS
        go_wp2
        go_quiet ((go_at_call 37; exact Calls.quiet_of_same (is_walk _ _)))
        go_wp2
        go_ret
        rw [HF.out]
        exact ⟨rfl, Go.below_drewN (hB.alloc hB.size _) _⟩
      have d2 : decide (sizeI l k < 1) = false := by simpa using q2
      by_cases q3 : sizeI l k > 1099511627776 - e
      · have HF := no_ok HS (by simp [okB, show ¬ (sizeI l k ≤ 1099511627776 - e) by omega])
        clear HS
        go_wp2
        go_quiet ((go_at_call 37; exact Calls.quiet_of_same (is_walk _ _)))
        go_wp2
        go_ret
        rw [HF.out]
        exact ⟨rfl, Go.below_drewN (hB.alloc hB.size _) _⟩
      have d3 : decide (sizeI l k > 1099511627776 - e) = false := by simpa using q3
      have s2 : 1 ≤ sizeI l k := by omega
      have s3 : sizeI l k ≤ 1099511627776 - e := by omega
      by_cases q4 : statusB (statI l k) = false
      · have HF := no_ok HS (by simp [okB, q4])
        clear HS
        go_wp2
        go_quiet ((go_at_call 37; exact Calls.quiet_of_same (is_walk _ _)))
        go_wp2
        go_ret
        rw [HF.out]
        exact ⟨rfl, Go.below_drewN (hB.alloc hB.size _) _⟩
      have q4 : statusB (statI l k) = true := by simpa using q4
      by_cases q5 : k = 0
      · subst q5
        simp only [Nat.zero_mul, Nat.add_zero] at hc1 hc2 hc3
        have HF := yes_ok HS (by simp [okB, e1, q4, s2, s3])
        clear HS
        go_wp2
        go_quiet ((go_at_call 37; exact Calls.quiet_of_same (is_walk _ _)))
        go_wp2
        exact ⟨⟨0 + 1, e + sizeI l (0), by rw [HN.out]; omega, by simp, rfl, by omega, by omega, HF.out, Go.below_drewN (hB.alloc hB.size _) _⟩, by simp [intOf]; omega⟩
      obtain ⟨j, rfl⟩ : ∃ j, k = j + 1 := ⟨k - 1, by omega⟩
      obtain ⟨_, _, hc4⟩ := (HC.out.below hB hb).1 j (by rw [HN.out]; omega)
      have hc5 : (wr.alloc (Obj.cells #[Value.int IntKind.i64 (posI l (j + 1)), Value.int IntKind.i64 (sizeI l (j + 1)), Value.int IntKind.u8 (statI l (j + 1))] 70)).cell? ⟨b, o + j * 3 + 2, none⟩ = some (.int .u8 (statI l j)) :=
        ((HC.out.below (hB.alloc hB.size _) hb).1 j (by rw [HN.out]; omega)).2.2
      have r7 := (HC.out.2 j (by rw [HN.out]; omega)).2.2
      have d5 : (0 : Int) < (j : Int) + 1 := by omega
      by_cases q6 : (statI l j == statI l (j + 1)) = true
      · have HF := no_ok HS (by simp [okB, q6])
        clear HS
        go_wp2
        go_quiet ((go_at_call 37; exact Calls.quiet_of_same (is_walk _ _)))
        go_wp2
        go_ret
        rw [HF.out]
        exact ⟨rfl, Go.below_drewN (hB.alloc hB.size _) _⟩
      have q6 : (statI l j == statI l (j + 1)) = false := by simpa using q6
      have HF := yes_ok HS (by simp [okB, e1, q4, s2, s3, q6])
      clear HS
      go_wp2
      go_quiet ((go_at_call 37; exact Calls.quiet_of_same (is_walk _ _)))
      go_wp2
      exact ⟨⟨j + 1 + 1, e + sizeI l (j + 1), by rw [HN.out]; omega, by simp, rfl, by omega, by omega, HF.out, Go.below_drewN (hB.alloc hB.size _) _⟩, by simp [intOf]; omega⟩
    · obtain rfl : k = n := by omega
      have HF : Hid (mayB l = true) := by have h := HM.out; rw [HN.out, Nat.sub_self] at h; exact h
      clear HM
      go_wp2
      go_ret
      rw [HF.out]
      exact ⟨rfl, hB⟩
end Go.Proofs.Ytmefkfilclkgeaa.bound
