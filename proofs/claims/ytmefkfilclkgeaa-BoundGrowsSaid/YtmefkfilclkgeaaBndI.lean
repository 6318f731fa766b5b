import Derived.Test.YtmefkfilclkgeaaBndG
import Derived.Test.YtmefkfilclkgeaaBndH
namespace Go.Proofs.Ytmefkfilclkgeaa.bound
open Go.ChangeShapes Go.WideShapes Go.ChangeAt Go.RowKit
set_option linter.unusedVariables false
/-- which maps may be -/
def mapB (pos pass st : Int) (l : List Rg) : Bool := mayB l && (decide (0 ≤ pos) && (decide (pos ≤ endG l) && (decide (0 ≤ pass) && (decide (pass ≤ 20) && statusB st))))
def actsI (c r pos pass st : Int) (l : List Rg) : Int := match optsB c r, mapB pos pass st l with
  | true, true => (3 + 2 * r) * (sectorsI (endG l) + (l.length : Int))
  | _, _ => 0
def stepsI (c r pos pass st : Int) (l : List Rg) : Int := match optsB c r, mapB pos pass st l with
  | true, true => actsI c r pos pass st l + 1
  | _, _ => 0
theorem sectorsI_in (n : Int) : 0 ≤ sectorsI n ∧ sectorsI n ≤ 137438953472 := by
  unfold sectorsI
  split <;> omega
theorem opts_in (c r : Int) (h : optsB c r = true) : 0 ≤ r ∧ r ≤ 20 := by
  have h := of_decide_eq_true h
  omega
theorem actsI_in (c r pos pass st : Int) (l : List Rg) (hn : l.length ≤ 300) : 0 ≤ actsI c r pos pass st l ∧ actsI c r pos pass st l ≤ 9223372036854775806 := by
  unfold actsI
  have hy := sectorsI_in (endG l)
  have hr := opts_in c r
  generalize l.length = n at *
  generalize mapB pos pass st l = M at *
  generalize endG l = x at *
  generalize sectorsI x = y at *
  generalize optsB c r = O at *
  cases O with
  | false => exact ⟨Int.le_refl _, by show (0 : Int) ≤ _; omega⟩
  | true =>
    cases M with
    | false => exact ⟨Int.le_refl _, by show (0 : Int) ≤ _; omega⟩
    | true =>
      have hr := hr rfl
      show 0 ≤ (3 + 2 * r) * (y + (n : Int)) ∧ (3 + 2 * r) * (y + (n : Int)) ≤ _
      have p1 : 0 ≤ (3 + 2 * r) * (y + (n : Int)) := Int.mul_nonneg (by omega) (by omega)
      have p2 : (3 + 2 * r) * (y + (n : Int)) ≤ 43 * 137438953772 := Int.mul_le_mul (by omega) (by omega) (by omega) (by omega)
      exact ⟨p1, by omega⟩

theorem map_walk (a : Option Addr) (cap : Nat) (l : List Rg) (hl : l.length ≤ 1152921504606846976) (pos pass st : Int) (w : World) (h : Regs w a l) :
    Calls Try.prog 26 #[.agg #[.int .i64 pos, .int .i64 pass, .int .u8 st, .slice a l.length cap]] w fun e w' => e = .returned (.bool (mapB pos pass st l)) ∧ Below w.heap.size w w' := by
  have k1 := fun w h => may_walk a cap l hl w h
  have k2 := fun w h => End_walk a cap l hl w h
  have k3 := fun w => is_walk st w
  unfold mapB
  generalize l.length = n at *
  generalize mayB l = M at *
  generalize endG l = x at *
  generalize statusB st = Z at *
  cases M with
  | false => exact map_c0 a n cap pos pass st x l k1 w h
  | true =>
    by_cases g1 : 0 ≤ pos
    · by_cases g2 : pos ≤ x
      · by_cases g3 : 0 ≤ pass
        · by_cases g4 : pass ≤ 20
          · rw [decide_eq_true g1, decide_eq_true g2, decide_eq_true g3, decide_eq_true g4]
            exact map_c5 a n cap pos pass st x l g1 g2 g3 g4 Z k1 k2 k3 w h
          · rw [decide_eq_false g4, decide_eq_true g1, decide_eq_true g2, decide_eq_true g3]
            exact map_c4 a n cap pos pass st x l g1 g2 g3 (by omega) k1 k2 w h
        · rw [decide_eq_false g3, decide_eq_true g1, decide_eq_true g2]
          exact map_c3 a n cap pos pass st x l g1 g2 (by omega) k1 k2 w h
      · rw [decide_eq_false g2, decide_eq_true g1]
        exact map_c2 a n cap pos pass st x l g1 (by omega) k1 k2 w h
    · rw [decide_eq_false g1]
      exact map_c1 a n cap pos pass st x l (by omega) k1 w h

theorem rmap_walk (a : Option Addr) (cap : Nat) (l : List Rg) (hl : l.length ≤ 1152921504606846976) (pos pass st : Int) (w : World) (h : Regs w a l) :
    Calls Try.prog 34 #[.agg #[.int .i64 pos, .int .i64 pass, .int .u8 st, .slice a l.length cap]] w fun e w' => e = .returned (.bool (mapB pos pass st l)) ∧ Below w.heap.size w w' := by
  have k1 := fun w h => rmay_walk a cap l hl w h
  have k2 := fun w h => rEnd_walk a cap l hl w h
  have k3 := fun w => status_walk st w
  unfold mapB
  generalize l.length = n at *
  generalize mayB l = M at *
  generalize endG l = x at *
  generalize statusB st = Z at *
  cases M with
  | false => exact rmap_c0 a n cap pos pass st x l k1 w h
  | true =>
    by_cases g1 : 0 ≤ pos
    · by_cases g2 : pos ≤ x
      · by_cases g3 : 0 ≤ pass
        · by_cases g4 : pass ≤ 20
          · rw [decide_eq_true g1, decide_eq_true g2, decide_eq_true g3, decide_eq_true g4]
            exact rmap_c5 a n cap pos pass st x l g1 g2 g3 g4 Z k1 k2 k3 w h
          · rw [decide_eq_false g4, decide_eq_true g1, decide_eq_true g2, decide_eq_true g3]
            exact rmap_c4 a n cap pos pass st x l g1 g2 g3 (by omega) k1 k2 w h
        · rw [decide_eq_false g3, decide_eq_true g1, decide_eq_true g2]
          exact rmap_c3 a n cap pos pass st x l g1 g2 (by omega) k1 k2 w h
      · rw [decide_eq_false g2, decide_eq_true g1]
        exact rmap_c2 a n cap pos pass st x l g1 (by omega) k1 k2 w h
    · rw [decide_eq_false g1]
      exact rmap_c1 a n cap pos pass st x l (by omega) k1 w h

theorem acts_walk (c r pos pass st : Int) (bk : Bool) (a : Option Addr) (cap : Nat) (l : List Rg) (hn : l.length ≤ 300) (w : World) (h : Regs w a l) :
    Calls Try.prog 19 #[.agg #[.int .i64 c, .int .i64 r, .bool bk], .agg #[.int .i64 pos, .int .i64 pass, .int .u8 st, .slice a l.length cap]] w fun e w' => e = .returned (.int .i64 (actsI c r pos pass st l)) ∧ Below w.heap.size w w' := by
  have hl : l.length ≤ 1152921504606846976 := by omega
  have k1 := fun w => opts_walk c r bk w
  have k2 := fun w h => map_walk a cap l hl pos pass st w h
  have k3 := fun w h => End_walk a cap l hl w h
  have k4 := fun w => sectors_walk (endG l) w
  have hy := sectorsI_in (endG l)
  have hr := opts_in c r
  unfold actsI
  generalize l.length = n at *
  generalize mapB pos pass st l = M at *
  generalize endG l = x at *
  generalize sectorsI x = y at *
  generalize optsB c r = O at *
  cases O with
  | false => exact acts_no1 c r pos pass st bk a n cap l k1 w h
  | true =>
    cases M with
    | false => exact acts_no2 c r pos pass st bk a n cap l k1 k2 w h
    | true => exact acts_yes c r pos pass st x y bk a n cap l (hr rfl) hy hn k1 k2 k3 k4 w h

theorem racts_walk (c r pos pass st : Int) (bk : Bool) (a : Option Addr) (cap : Nat) (l : List Rg) (hn : l.length ≤ 300) (w : World) (h : Regs w a l) :
    Calls Try.prog 23 #[.agg #[.int .i64 c, .int .i64 r, .bool bk], .agg #[.int .i64 pos, .int .i64 pass, .int .u8 st, .slice a l.length cap]] w fun e w' => e = .returned (.int .i64 (actsI c r pos pass st l)) ∧ Below w.heap.size w w' := by
  have hl : l.length ≤ 1152921504606846976 := by omega
  have k1 := fun w => ropts_walk c r bk w
  have k2 := fun w h => rmap_walk a cap l hl pos pass st w h
  have k3 := fun w h => rEnd_walk a cap l hl w h
  have k4 := fun w => rsectors_walk (endG l) w
  have hy := sectorsI_in (endG l)
  have hr := opts_in c r
  unfold actsI
  generalize l.length = n at *
  generalize mapB pos pass st l = M at *
  generalize endG l = x at *
  generalize sectorsI x = y at *
  generalize optsB c r = O at *
  cases O with
  | false => exact racts_no1 c r pos pass st bk a n cap l k1 w h
  | true =>
    cases M with
    | false => exact racts_no2 c r pos pass st bk a n cap l k1 k2 w h
    | true => exact racts_yes c r pos pass st x y bk a n cap l (hr rfl) hy hn k1 k2 k3 k4 w h

theorem steps_walk (c r pos pass st : Int) (bk : Bool) (a : Option Addr) (cap : Nat) (l : List Rg) (hn : l.length ≤ 300) (w : World) (h : Regs w a l) :
    Calls Try.prog 20 #[.agg #[.int .i64 c, .int .i64 r, .bool bk], .agg #[.int .i64 pos, .int .i64 pass, .int .u8 st, .slice a l.length cap]] w fun e w' => e = .returned (.int .i64 (stepsI c r pos pass st l)) ∧ Below w.heap.size w w' := by
  have hl : l.length ≤ 1152921504606846976 := by omega
  have k1 := fun w => opts_walk c r bk w
  have k2 := fun w h => map_walk a cap l hl pos pass st w h
  have k3 := fun w h => acts_walk c r pos pass st bk a cap l hn w h
  have hx := actsI_in c r pos pass st l hn
  unfold stepsI
  generalize l.length = n at *
  generalize actsI c r pos pass st l = x at *
  generalize mapB pos pass st l = M at *
  generalize optsB c r = O at *
  cases O with
  | false => exact steps_no1 c r pos pass st bk a n cap l k1 w h
  | true =>
    cases M with
    | false => exact steps_no2 c r pos pass st bk a n cap l k1 k2 w h
    | true => exact steps_yes c r pos pass st x bk a n cap l hx k1 k2 k3 w h

theorem rsteps_walk (c r pos pass st : Int) (bk : Bool) (a : Option Addr) (cap : Nat) (l : List Rg) (hn : l.length ≤ 300) (w : World) (h : Regs w a l) :
    Calls Try.prog 24 #[.agg #[.int .i64 c, .int .i64 r, .bool bk], .agg #[.int .i64 pos, .int .i64 pass, .int .u8 st, .slice a l.length cap]] w fun e w' => e = .returned (.int .i64 (stepsI c r pos pass st l)) ∧ Below w.heap.size w w' := by
  have hl : l.length ≤ 1152921504606846976 := by omega
  have k1 := fun w => ropts_walk c r bk w
  have k2 := fun w h => rmap_walk a cap l hl pos pass st w h
  have k3 := fun w h => racts_walk c r pos pass st bk a cap l hn w h
  have hx := actsI_in c r pos pass st l hn
  unfold stepsI
  generalize l.length = n at *
  generalize actsI c r pos pass st l = x at *
  generalize mapB pos pass st l = M at *
  generalize optsB c r = O at *
  cases O with
  | false => exact rsteps_no1 c r pos pass st bk a n cap l k1 w h
  | true =>
    cases M with
    | false => exact rsteps_no2 c r pos pass st bk a n cap l k1 k2 w h
    | true => exact rsteps_yes c r pos pass st x bk a n cap l hx k1 k2 k3 w h
end Go.Proofs.Ytmefkfilclkgeaa.bound
