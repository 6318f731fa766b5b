/- The evaluator's cuts, appends, copies, conversions, maps and comparisons beside the machine's. -/
import Derived.Test.YthloojeefdjpjaaGreatDoorAbD
import Derived.Laws.Append
namespace Go.Proofs.YthloojeefdjpjaaGreatDoor
open Go Go.RowKit
set_option linter.unusedVariables false
set_option linter.unusedSimpArgs false

def OR (β : Bt) (x x' : Option Value) : Prop := (x = none ∧ x' = none) ∨ ∃ v v', x = some v ∧ x' = some v' ∧ VR β v v'
theorem OR.map {β : Bt} {ρ ρ' : Operand → Value} (h : ∀ x, VR β (ρ x) (ρ' x)) (x : Option Operand) : OR β (x.map ρ) (x.map ρ') := by
  cases x with
  | none => exact .inl ⟨rfl, rfl⟩
  | some x => exact .inr ⟨_, _, rfl, rfl, h x⟩
theorem bound_inv {β : Bt} {x x' : Option Value} {d most n : Nat} (h : bound_ x d most = some n) (hx : OR β x x') : (x = none ∧ x' = none ∧ n = d) ∨ ∃ k, x' = some (.int k (Int.ofNat n)) ∧ n ≤ most := by
  unfold bound_ at h
  split at h
  · injection h with h
    rcases hx with ⟨_, h2⟩ | ⟨v, v', h1, _⟩
    · exact .inl ⟨rfl, h2, h.symm⟩
    · cases h1
  · rename_i k m
    cases hb : Nat.ble m most with
    | false => rw [hb] at h; cases h
    | true =>
      rw [hb, cond_true] at h
      injection h with h
      subst h
      rcases hx with ⟨h1, _⟩ | ⟨v, v', h1, h2, hv⟩
      · cases h1
      · injection h1 with h1
        subst h1
        rw [hv.int_inv] at h2
        exact .inr ⟨k, h2, Nat.le_of_ble_eq_true hb⟩
  · cases h
/-- the machine's own bounds; its capacity may be greater than what is known of it where no max is told -/
theorem bounds_run {P : Program} {β : Bt} {len cap cap' l hv m : Nat} {lo hi mx lo' hi' mx' : Option Value} (h : bounds_ len cap lo hi mx = some (l, hv, m)) (hl : OR β lo lo') (hh : OR β hi hi') (hm : OR β mx mx')
    (hc : cap' = cap ∨ cap ≤ cap') (isS : Bool) (w : World) :
    (Instr.sliceBounds isS len cap' lo' hi' mx').run P w = .ok (l, hv, if mx = none then cap' else m) w ∧ l ≤ hv ∧ (hi = none → hv = len) ∧ (hi ≠ none → hv ≤ m) ∧ (mx = none → m = cap) ∧ m ≤ cap := by
  unfold bounds_ at h
  split at h
  · cases h
  · rename_i hno
    cases hq : bound_ mx cap cap with
    | none => rw [hq] at h; cases h
    | some m1 =>
      rw [hq] at h
      simp only at h
      cases hq2 : bound_ hi len m1 with
      | none => rw [hq2] at h; cases h
      | some h1 =>
        rw [hq2] at h
        simp only at h
        cases hq3 : bound_ lo 0 h1 with
        | none => rw [hq3] at h; cases h
        | some l1 =>
          rw [hq3] at h
          simp only [Option.some.injEq, Prod.mk.injEq] at h
          obtain ⟨rfl, rfl, rfl⟩ := h
          have r1 := bound_inv hq hm
          have r2 := bound_inv hq2 hh
          have r3 := bound_inv hq3 hl
          have hle : l1 ≤ h1 := by
            rcases r3 with ⟨_, _, rfl⟩ | ⟨_, _, h⟩
            · exact Nat.zero_le _
            · exact h
          rcases r1 with ⟨rfl, rfl, rfl⟩ | ⟨k1, rfl, hm1⟩
          · refine ⟨?_, hle, ?_, ?_, fun _ => rfl, Nat.le_refl _⟩
            · rcases r2 with ⟨rfl, rfl, rfl⟩ | ⟨k2, rfl, hm2⟩
              · rcases r3 with ⟨rfl, rfl, rfl⟩ | ⟨k3, rfl, hm3⟩
                · simp [Instr.sliceBounds]
                · have : (l1 : Int) ≤ (h1 : Int) := by omega
                  simp [Instr.sliceBounds, Instr.sliceBound, asIntOf, hm3]
              · have hm4 : h1 ≤ cap' := by rcases hc with rfl | h <;> omega
                rcases r3 with ⟨rfl, rfl, rfl⟩ | ⟨k3, rfl, hm3⟩
                · simp [Instr.sliceBounds, Instr.sliceBound, asIntOf, hm4]
                · simp [Instr.sliceBounds, Instr.sliceBound, asIntOf, hm4, hm3]
            · intro h
              rcases r2 with ⟨_, _, h2⟩ | ⟨k2, h2, _⟩
              · exact h2
              · rcases hh with ⟨_, h3⟩ | ⟨v, v', h3, _⟩
                · rw [h3] at h2; cases h2
                · rw [h] at h3; cases h3
            · intro h
              rcases r2 with ⟨h2, _, _⟩ | ⟨k2, h2, h3⟩
              · exact absurd h2 h
              · exact h3
          · have hmx : mx ≠ none := by
              rcases hm with ⟨h1, h2⟩ | ⟨v, v', h1, _⟩
              · cases h2
              · rw [h1]; simp
            have hm1c : m1 ≤ cap' := by rcases hc with rfl | h <;> omega
            rcases r2 with ⟨h2, rfl, rfl⟩ | ⟨k2, rfl, hm2⟩
            · exfalso
              cases mx with
              | none => exact hmx rfl
              | some v => exact hno v rfl h2
            · have hhi : hi ≠ none := by
                rcases hh with ⟨h1, h2⟩ | ⟨v, v', h1, _⟩
                · cases h2
                · rw [h1]; simp
              rw [if_neg hmx]
              refine ⟨?_, hle, fun h => absurd h hhi, fun _ => hm2, fun h => absurd h hmx, hm1⟩
              rcases r3 with ⟨rfl, rfl, rfl⟩ | ⟨k3, rfl, hm3⟩
              · simp [Instr.sliceBounds, Instr.sliceBound, asIntOf, hm1c, hm2]
              · simp [Instr.sliceBounds, Instr.sliceBound, asIntOf, hm1c, hm2, hm3]
theorem exact_ex {P : Program} {β : Bt} {h : Hp} {w : World} (H : HR P β h w) {b : Nat} {i : Info} (he : isExact h b = some true) (hi : β b = some i) : i.ex = 0 := by
  unfold isExact at he
  cases hg : h.get b with
  | none => rw [hg] at he; cases he
  | some x =>
    rw [hg] at he
    cases x with
    | cells c e ex ro =>
      simp only [Option.some.injEq] at he
      subst he
      rcases H.ok _ _ _ hg hi with ⟨_, _, h1⟩ | ⟨_, _, _, _, _, _, h4, _⟩
      · cases h1
      · exact (h4 rfl).1
    | map es c => cases he
    | dead => cases he
    | view b => exact (seen_at H hg hi).1
section
variable {P : Program} {eqs : List TypeId} (hp : P.types.size < 4000)
include hp
theorem slice_does {β : Bt} {h h' : Hp} {w : World} (H : HR P β h w) {t : TypeId} {x x' v : Value} {lo hi mx lo' hi' mx' : Option Value} (hs : slice_ (Env.of P eqs) t x lo hi mx h = some (v, h'))
    (hx : VR β x x') (hl : OR β lo lo') (hh : OR β hi hi') (hm : OR β mx mx') : Does P β h w (Instr.sliceAt t x' lo' hi' mx') v h' := by
  unfold slice_ at hs
  split at hs
  · rename_i s hu
    rw [hx.string_inv]
    split at hs
    · rename_i l hv m hb
      cases hc : lcut s.data.toList l (hv - l) with
      | none => rw [hc] at hs; cases hs
      | some c =>
        rw [hc] at hs
        simp only [Option.some.injEq, Prod.mk.injEq] at hs
        obtain ⟨rfl, rfl⟩ := hs
        have hmx : mx' = none := by rcases hm with ⟨_, h⟩ | ⟨v, v', h, _⟩; exact h; cases h
        subst hmx
        obtain ⟨hr, hle, _⟩ := bounds_run (P := P) hb hl hh (.inl ⟨rfl, rfl⟩) (.inl rfl) false w
        rw [if_pos rfl] at hr
        obtain ⟨hc1, rfl, hc2⟩ := lcut_some hc
        refine .same H (v' := .string ⟨⟨(s.data.toList.drop l).take (hv - l)⟩⟩) ?_ (.string _)
        have hsz : s.data.toList.length = s.size := by rw [Array.length_toList]; rfl
        rw [hsz] at hr
        simp only [Instr.sliceAt, Sem.run_bind, run_under hp hu, Result.andThen_ok, Instr.slice, Option.isSome_none, Bool.false_eq_true, if_false, hr, Sem.run_pure]
        congr 2
        apply ByteArray.ext
        apply Array.ext'
        simp [List.extract_eq_take_drop]
    · cases hs
  · rename_i e len cap hu
    rw [hx.nilSlice_inv]
    split at hs
    · rename_i sz l hv m hsz hb
      simp only [Option.some.injEq, Prod.mk.injEq] at hs
      obtain ⟨rfl, rfl⟩ := hs
      obtain ⟨hr, hle, _, _, hm1, _⟩ := bounds_run (P := P) hb hl hh hm (.inl rfl) true w
      have hmm : (if mx = none then cap else m) = m := by
        split
        · rename_i h; exact (hm1 h).symm
        · rfl
      rw [hmm] at hr
      refine .same H (v' := .slice none (hv - l) (m - l)) ?_ (.nilSlice _ _)
      simp only [Instr.sliceAt, Sem.run_bind, run_under hp hu, Result.andThen_ok, Instr.slice, hr, run_size hp hsz, Sem.run_pure]
      congr 2
      split <;> rfl
    · cases hs
  · rename_i e a len cap hu
    obtain ⟨i, ha, hi, rfl⟩ := hx.slice_inv
    split at hs
    · rename_i sz hsz hex
      have hex0 := exact_ex H hex hi
      split at hs
      · rename_i l hv m hb
        simp only [Option.some.injEq, Prod.mk.injEq] at hs
        obtain ⟨rfl, rfl⟩ := hs
        obtain ⟨hr, hle, _, _, hm1, _⟩ := bounds_run (P := P) hb hl hh hm (.inl rfl) true w
        have hmm : (if mx = none then cap else m) = m := by
          split
          · rename_i h; exact (hm1 h).symm
          · rfl
        rw [hmm] at hr
        rw [hex0, Nat.add_zero]
        by_cases hml : m = l
        · subst hml
          refine .same H (v' := .slice (some ⟨i.blk, i.off + a.off, none⟩) (hv - m) (m - m)) ?_ ?_
          · simp only [Instr.sliceAt, Sem.run_bind, run_under hp hu, Result.andThen_ok, Instr.slice, hr, run_size hp hsz, Sem.run_pure, if_pos]
          · have : Nat.beq m m = true := Nat.beq_refl m
            rw [this, cond_true, ha]
            have := VR.slice a.off (hv - m) (m - m) hi
            rw [hex0] at this
            exact this
        · refine .same H (v' := .slice (some ⟨i.blk, i.off + (a.off + l * sz), none⟩) (hv - l) (m - l)) ?_ ?_
          · simp only [Instr.sliceAt, Sem.run_bind, run_under hp hu, Result.andThen_ok, Instr.slice, hr, run_size hp hsz, Sem.run_pure, if_neg hml, Option.map_some, add_none, Nat.add_assoc]
          · have : Nat.beq m l = false := by rw [Bool.eq_false_iff]; intro e; exact hml (Nat.eq_of_beq_eq_true e)
            rw [this, cond_false]
            have := VR.slice (a.off + l * sz) (hv - l) (m - l) hi
            rw [hex0] at this
            exact this
      · cases hs
    · rename_i sz hsz hex
      split at hs
      · rename_i l hv m hb
        have hmx : mx' = none := by rcases hm with ⟨_, h⟩ | ⟨v, v', h, _⟩; exact h; cases h
        subst hmx
        obtain ⟨hr, hle, _, _, hm1, _⟩ := bounds_run (P := P) (cap' := cap + i.ex) hb hl hh (.inl ⟨rfl, rfl⟩) (.inr (Nat.le_add_right _ _)) true w
        rw [if_pos rfl] at hr
        cases hcap : Nat.ble hv cap with
        | false => rw [hcap] at hs; cases hs
        | true =>
          rw [hcap, cond_true] at hs
          have hcap' := Nat.le_of_ble_eq_true hcap
          cases hlt : Nat.blt l cap with
          | true =>
            rw [hlt, cond_true] at hs
            simp only [Option.some.injEq, Prod.mk.injEq] at hs
            obtain ⟨rfl, rfl⟩ := hs
            have hlt' : l < cap := Nat.lt_of_lt_of_le (Nat.lt_succ_self _) (Nat.le_of_ble_eq_true hlt)
            refine .same H (v' := .slice (some ⟨i.blk, i.off + (a.off + l * sz), none⟩) (hv - l) (cap + i.ex - l)) ?_ ?_
            · have hml : ¬ (cap + i.ex = l) := by omega
              simp only [Instr.sliceAt, Sem.run_bind, run_under hp hu, Result.andThen_ok, Instr.slice, hr, run_size hp hsz, Sem.run_pure, if_neg hml, Option.map_some, add_none, Nat.add_assoc]
            · rw [show cap + i.ex - l = (cap - l) + i.ex from by omega]
              exact VR.slice (a.off + l * sz) (hv - l) (cap - l) hi
          | false =>
            rw [hlt, cond_false] at hs
            have hge : cap ≤ l := by
              rcases Nat.lt_or_ge l cap with h | h
              · have : Nat.blt l cap = true := Nat.ble_eq_true_of_le h
                rw [this] at hlt; cases hlt
              · exact h
            simp only [Option.some.injEq, Prod.mk.injEq] at hs
            obtain ⟨rfl, rfl⟩ := hs
            have hlv : hv = l := by omega
            by_cases hex1 : cap + i.ex = l
            · refine .same H (v' := .slice (some ⟨i.blk, i.off + a.off, none⟩) 0 (cap + i.ex - l)) ?_ (.noneLeft _ _)
              simp only [Instr.sliceAt, Sem.run_bind, run_under hp hu, Result.andThen_ok, Instr.slice, hr, run_size hp hsz, Sem.run_pure, if_pos hex1]
              rw [hlv, Nat.sub_self]
            · refine .same H (v' := .slice (some ⟨i.blk, i.off + (a.off + l * sz), none⟩) 0 (cap + i.ex - l)) ?_ (.noneLeft _ _)
              simp only [Instr.sliceAt, Sem.run_bind, run_under hp hu, Result.andThen_ok, Instr.slice, hr, run_size hp hsz, Sem.run_pure, if_neg hex1, Option.map_some, add_none, Nat.add_assoc]
              rw [hlv, Nat.sub_self]
      · rename_i mv _
        split at hs
        · rename_i vb l hv m hgv hb
          cases hvb : Nat.beq vb a.block with
          | false => rw [hvb] at hs; cases hs
          | true =>
            rw [hvb, cond_true] at hs
            have hvb := Nat.eq_of_beq_eq_true hvb
            subst hvb
            simp only [Option.some.injEq, Prod.mk.injEq] at hs
            obtain ⟨rfl, rfl⟩ := hs
            obtain ⟨jv, hjv⟩ := H.has _ _ hgv
            obtain ⟨hex0, j, hj, e1, e2⟩ := seen_at H hgv hjv
            rw [hi] at hj
            injection hj with hj
            subst hj
            obtain ⟨hr, hle, _, _, _, _⟩ := bounds_run (P := P) (cap' := cap + i.ex) hb hl hh hm (.inr (Nat.le_add_right _ _)) true w
            rw [if_neg (by simp)] at hr
            by_cases hml : m = l
            · subst hml
              refine .same H (v' := .slice (some ⟨i.blk, i.off + a.off, none⟩) (hv - m) (m - m)) ?_ ?_
              · simp only [Instr.sliceAt, Sem.run_bind, run_under hp hu, Result.andThen_ok, Instr.slice, hr, run_size hp hsz, Sem.run_pure, if_pos]
              · have : Nat.beq m m = true := Nat.beq_refl m
                rw [this, cond_true, e1, e2]
                have := VR.slice a.off (hv - m) (m - m) hjv
                rw [hex0] at this
                exact this
            · refine .same H (v' := .slice (some ⟨i.blk, i.off + (a.off + l * sz), none⟩) (hv - l) (m - l)) ?_ ?_
              · simp only [Instr.sliceAt, Sem.run_bind, run_under hp hu, Result.andThen_ok, Instr.slice, hr, run_size hp hsz, Sem.run_pure, if_neg hml, Option.map_some, add_none, Nat.add_assoc]
              · have : Nat.beq m l = false := by rw [Bool.eq_false_iff]; intro e; exact hml (Nat.eq_of_beq_eq_true e)
                rw [this, cond_false, e1, e2]
                have := VR.slice (a.off + l * sz) (hv - l) (m - l) hjv
                rw [hex0] at this
                exact this
        · cases hs
      · cases hs
    · cases hs
  · rename_i n e b o hu
    obtain ⟨i, hi, rfl⟩ := hx.ptr_inv
    split at hs
    · rename_i sz l hv m hsz hb
      split at hs
      · rename_i hex
        have hex0 := exact_ex H hex hi
        simp only [Option.some.injEq, Prod.mk.injEq] at hs
        obtain ⟨rfl, rfl⟩ := hs
        obtain ⟨hr, hle, _, _, hm1, _⟩ := bounds_run (P := P) hb hl hh hm (.inl rfl) false w
        have hmm : (if mx = none then n else m) = m := by
          split
          · rename_i h; exact (hm1 h).symm
          · rfl
        rw [hmm] at hr
        by_cases hml : m = l
        · subst hml
          refine .same H (v' := .slice (some ⟨i.blk, i.off + o, none⟩) (hv - m) (m - m)) ?_ ?_
          · simp only [Instr.sliceAt, Sem.run_bind, run_under hp hu, Result.andThen_ok, Instr.sureAddr, hr, run_size hp hsz, Sem.run_pure, if_pos]
          · have : Nat.beq m m = true := Nat.beq_refl m
            rw [this, cond_true]
            have := VR.slice o (hv - m) (m - m) hi
            rw [hex0] at this
            exact this
        · refine .same H (v' := .slice (some ⟨i.blk, i.off + (o + l * sz), none⟩) (hv - l) (m - l)) ?_ ?_
          · simp only [Instr.sliceAt, Sem.run_bind, run_under hp hu, Result.andThen_ok, Instr.sureAddr, hr, run_size hp hsz, Sem.run_pure, if_neg hml, add_none, Nat.add_assoc]
          · have : Nat.beq m l = false := by rw [Bool.eq_false_iff]; intro e; exact hml (Nat.eq_of_beq_eq_true e)
            rw [this, cond_false]
            have := VR.slice (o + l * sz) (hv - l) (m - l) hi
            rw [hex0] at this
            exact this
      · split at hs
        · rename_i vb hgv
          cases hvb : Nat.beq vb b with
          | false => rw [hvb] at hs; cases hs
          | true =>
          rw [hvb, cond_true] at hs
          have hvb := Nat.eq_of_beq_eq_true hvb
          subst hvb
          simp only [Option.some.injEq, Prod.mk.injEq] at hs
          obtain ⟨rfl, rfl⟩ := hs
          obtain ⟨jv, hjv⟩ := H.has _ _ hgv
          obtain ⟨hex0, j, hj, e1, e2⟩ := seen_at H hgv hjv
          rw [hi] at hj
          injection hj with hj
          subst hj
          obtain ⟨hr, hle, _, _, hm1, _⟩ := bounds_run (P := P) hb hl hh hm (.inl rfl) false w
          have hmm : (if mx = none then n else m) = m := by
            split
            · rename_i h; exact (hm1 h).symm
            · rfl
          rw [hmm] at hr
          by_cases hml : m = l
          · subst hml
            refine .same H (v' := .slice (some ⟨i.blk, i.off + o, none⟩) (hv - m) (m - m)) ?_ ?_
            · simp only [Instr.sliceAt, Sem.run_bind, run_under hp hu, Result.andThen_ok, Instr.sureAddr, hr, run_size hp hsz, Sem.run_pure, if_pos]
            · have : Nat.beq m m = true := Nat.beq_refl m
              rw [this, cond_true, e1, e2]
              have := VR.slice o (hv - m) (m - m) hjv
              rw [hex0] at this
              exact this
          · refine .same H (v' := .slice (some ⟨i.blk, i.off + (o + l * sz), none⟩) (hv - l) (m - l)) ?_ ?_
            · simp only [Instr.sliceAt, Sem.run_bind, run_under hp hu, Result.andThen_ok, Instr.sureAddr, hr, run_size hp hsz, Sem.run_pure, if_neg hml, add_none, Nat.add_assoc]
            · have : Nat.beq m l = false := by rw [Bool.eq_false_iff]; intro e; exact hml (Nat.eq_of_beq_eq_true e)
              rw [this, cond_false, e1, e2]
              have := VR.slice (o + l * sz) (hv - l) (m - l) hjv
              rw [hex0] at this
              exact this
        · cases hs
      · cases hs
    · cases hs
  · cases hs
end
end Go.Proofs.YthloojeefdjpjaaGreatDoor
