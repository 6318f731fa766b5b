/- The evaluator's appends, all ways, conversions, lengths, maps and comparisons beside the machine's. -/
import Derived.Test.YthloojeefdjpjaaGreatDoorAbF
namespace Go.Proofs.YthloojeefdjpjaaGreatDoor
open Go Go.RowKit
set_option linter.unusedVariables false
set_option linter.unusedSimpArgs false

theorem HR.kill {P : Program} {β : Bt} {h : Hp} {w : World} (H : HR P β h w) {b : Nat} {x : Blk} (hx : h.get b = some x) (hm : x.mine) : HR P β (h.put b .dead) w ∧ St β h w β (h.put b .dead) w := by
  obtain ⟨i, hi⟩ := H.has _ _ hx
  exact ⟨H.change hx hi hm (fun _ _ _ => rfl) trivial, ⟨.refl _, rfl, rfl, rfl, Nat.le_refl _, fun _ _ _ => rfl, fun k hk => .inl (own_put H hx hm hk), fun k hk => .inl (held_put H hx hm hk)⟩⟩
theorem get_block {P : Program} {β : Bt} {h : Hp} {w : World} (H : HR P β h w) {a : Addr} {x : Blk} (hg : h.get a.block = some x) {i : Info} (hi : β a.block = some i) {c : List Value} {e : TypeId} {ex ro : Bool} (hx : x = .cells c e ex ro) {n : Nat} {l : List Value} (hl : lcut c a.off n = some l) :
    ∃ l' : Array Value, LR β l l'.toList ∧ l.length = n ∧ ∀ W : World, W.heap = w.heap → (loadCells ⟨i.blk, i.off + a.off, none⟩ n).run P W = .ok l' W := by
  subst hx
  have : loadCells_ h a n = some l := by unfold loadCells_; rw [hg]; exact hl
  obtain ⟨l', hr, hR, hlen⟩ := loadCells_run H this hi
  exact ⟨l'.toArray, by simpa using hR, hlen, hr⟩
section
variable {P : Program} {eqs : List TypeId} (hp : P.types.size < 4000)
include hp
theorem append0_does {β : Bt} {h h' : Hp} {w : World} (H : HR P β h w) {t1 t2 : TypeId} {s x s' x' v : Value} (ha : append0_ (Env.of P eqs) t1 t2 s x h = some (v, h')) (hs : VR β s s') (hx : VR β x x') (ty : TypeId) :
    Does P β h w (Builtin.append_ #[t1, t2] ty #[s', x']) v h' := by
  unfold append0_ at ha
  split at ha
  · cases ha
  · rename_i e d2 hd2' hu1 hu2
    have hd2 : ∀ k, d2 ≠ .int k := hd2'
    split at ha
    · rename_i sz by_ z hsz hby hz
      split at ha
      · -- nil
        rename_i n c hn hzs
        have hzs' : z.cells.toList.length = sz := Nat.eq_of_beq_eq_true hzs
        rw [hs.nilSlice_inv]
        cases n with
        | zero =>
          simp only [Option.some.injEq, Prod.mk.injEq] at ha
          obtain ⟨rfl, rfl⟩ := ha
          obtain ⟨hlen, hmin, hcl, c', hcR, hcr⟩ := news_run H hn hx
          have hnn : lenV_ x = 0 := by rw [hmin]; exact (Nat.min_self _).symm
          have hu3 := run_under hp hu2 w
          have hq := hcr w rfl
          refine .same H (v' := .slice none 0 0) ?_ (.nilSlice 0 0)
          cases d2 <;> first | exact absurd rfl (hd2 _) | (
            unfold Builtin.append_
            simp only [List.getElem?_toArray, List.getElem?_cons_zero, List.getElem?_cons_succ, Sem.run_bind, Sem.run_pure, run_under hp hu1, hu3, Result.andThen_ok, run_size hp hsz, Bool.false_eq_true, if_false, hlen, hnn, Nat.add_zero, Nat.le_refl, Bool.not_false, if_true, hq])
        | succ n =>
          simp only at ha
          cases hb : (Nat.ble ((n + 1) * by_) 140737488355328 && Nat.ble (n + 1) 9223372036854775807) with
          | false => rw [hb] at ha; cases ha
          | true =>
            rw [hb, cond_true] at ha
            obtain ⟨hb1, hb2⟩ := Bool.and_eq_true_iff.1 hb
            cases hnew : newRow_ h e c false with
            | none => rw [hnew] at ha; cases ha
            | some q =>
              obtain ⟨a, h2⟩ := q
              rw [hnew] at ha
              simp only [Option.some.injEq, Prod.mk.injEq] at ha
              obtain ⟨rfl, rfl⟩ := ha
              have := append_grows hp (len := 0) (cap' := 0) (base := none) (l := []) (l' := #[]) H H (.refl _ _ _) hu1 hu2 hd2 hsz hby hz hzs' hn hx (fun W _ => rfl) (LR.nil β) (by simp) (by omega) (by have := Nat.le_of_ble_eq_true hb1; simpa using this) (by have := Nat.le_of_ble_eq_true hb2; simpa using this) (by simpa using hnew) ty
              simpa using this
      · rename_i n c ad len cap hn hzs
        have hzs' : z.cells.toList.length = sz := Nat.eq_of_beq_eq_true hzs
        obtain ⟨i, hadr, hi, rfl⟩ := hs.slice_inv
        cases hle : Nat.ble (len + n) cap with
        | true =>
          rw [hle, cond_true] at ha
          have hle' := Nat.le_of_ble_eq_true hle
          cases n with
          | zero =>
            simp only [Option.some.injEq, Prod.mk.injEq] at ha
            obtain ⟨rfl, rfl⟩ := ha
            refine .same H (append_here hp (h' := h) (w' := w) H hu1 hu2 hd2 hsz hn hx (by omega) ty (fun c' hc' _ => ?_)) ?_
            · have hcl := (news_run H hn hx).2.2.1
              have : c'.toList = [] := by
                have h1 := hc'.1
                rw [hcl, Nat.zero_mul] at h1
                exact List.eq_nil_of_length_eq_zero h1.symm
              rw [this]
              rfl
            · rw [hadr]; exact .slice _ _ _ hi
          | succ n =>
            simp only at ha
            cases hst : storeCells_ h (add_ ad (len * sz)) c with
            | none => rw [hst] at ha; cases ha
            | some h2 =>
              rw [hst] at ha
              simp only [Option.some.injEq, Prod.mk.injEq] at ha
              obtain ⟨rfl, rfl⟩ := ha
              obtain ⟨_, _, _, c', hcR, hcr⟩ := news_run H hn hx
              obtain ⟨w', hr, H', S'⟩ := storeCells_run H hst hi hcR
              refine ⟨_, w', β, append_here hp (h' := h) (w' := w') H hu1 hu2 hd2 hsz hn hx (by omega) ty (fun c2 hc2 hcr2 => ?_), H', S', ?_⟩
              · have e1 := hcr w rfl
                have e2 := hcr2 w rfl
                rw [e1] at e2
                injection e2 with e2
                subst e2
                rw [add_none, Nat.add_assoc]
                exact hr
              · rw [hadr]; exact .slice _ _ _ hi
        | false =>
          rw [hle, cond_false] at ha
          have hgt : cap < len + n := by
            rcases Nat.lt_or_ge cap (len + n) with h | h
            · exact h
            · rw [Nat.ble_eq_true_of_le h] at hle; cases hle
          split at ha
          · rename_i old e' exact_ ro hg
            cases hcut : lcut old ad.off (len * sz) with
            | none => rw [hcut] at ha; cases ha
            | some l =>
              rw [hcut] at ha
              simp only at ha
              cases hb : (Nat.ble ((len + n) * by_) 140737488355328 && Nat.ble (len + n) 9223372036854775807) with
              | false => rw [hb] at ha; cases ha
              | true =>
                rw [hb, cond_true] at ha
                obtain ⟨hb1, hb2⟩ := Bool.and_eq_true_iff.1 hb
                have hb1 := Nat.le_of_ble_eq_true hb1
                have hb2 := Nat.le_of_ble_eq_true hb2
                obtain ⟨l', hlR, hll, hlr⟩ := get_block H hg hi rfl hcut
                have hold : ∀ (cap' : Nat) (W : World), W.heap = w.heap → (Builtin.firstCells sz len (.slice (some ⟨i.blk, i.off + ad.off, none⟩) len cap')).run P W = .ok l' W := fun cap' W hW => hlr W hW
                split at ha
                · -- its capacity is known: a new row
                  cases hnew : newRow_ h e (l ++ c) false with
                  | none => rw [hnew] at ha; cases ha
                  | some q =>
                    obtain ⟨a, h2⟩ := q
                    rw [hnew] at ha
                    simp only [Option.some.injEq, Prod.mk.injEq] at ha
                    obtain ⟨rfl, rfl⟩ := ha
                    have hex0 : i.ex = 0 := exact_ex H (b := ad.block) (by unfold isExact; rw [hg]) hi
                    rw [hex0, Nat.add_zero]
                    exact append_grows hp H H (.refl _ _ _) hu1 hu2 hd2 hsz hby hz hzs' hn hx (hold cap) hlR hll hgt hb1 hb2 hnew ty
                · -- it isn't: a new row, or the old one
                  cases hc3 : (Nat.beq e' e && Nat.ble (ad.off + cap * sz) old.length) with
                  | false => rw [hc3] at ha; cases ha
                  | true =>
                    rw [hc3, cond_true] at ha
                    obtain ⟨he', hroom⟩ := Bool.and_eq_true_iff.1 hc3
                    have he' : e' = e := Nat.eq_of_beq_eq_true he'
                    subst he'
                    have hroom := Nat.le_of_ble_eq_true hroom
                    cases ho : ones_ c with
                    | false => rw [ho] at ha; cases ha
                    | true =>
                      rw [ho] at ha
                      cases hnew : newRow_ (h.put ad.block .dead) e' (l ++ c) false with
                      | none => rw [hnew] at ha; cases ha
                      | some q =>
                        obtain ⟨a, h2⟩ := q
                        rw [hnew] at ha
                        simp only [Option.some.injEq, Prod.mk.injEq] at ha
                        obtain ⟨rfl, rfl⟩ := ha
                        obtain ⟨Hk, Sk⟩ := H.kill hg trivial
                        rcases Nat.lt_or_ge (cap + i.ex) (len + n) with hlt | hge
                        · exact append_grows hp H Hk Sk hu1 hu2 hd2 hsz hby hz hzs' hn hx (hold _) hlR hll hlt hb1 hb2 hnew ty
                        · -- in place
                          obtain ⟨_, _, hcl, c', hcR, hcr⟩ := news_run H hn hx
                          obtain ⟨_, _, _, hcell⟩ := env_size hp hsz
                          rcases H.ok _ _ _ hg hi with ⟨_, hf, _⟩ | ⟨cc, e2, fr, hblk, hsize, hv, hexx, hmine⟩
                          · cases hf
                          · obtain ⟨hee, hfr, hroom2⟩ := hmine rfl
                            rw [hcell] at hroom2
                            have hcutl := (lcut_some hcut).1
                            have hc'l : c'.toList.length = n * sz := by rw [← hcR.1, hcl]
                            have hmul : (len + n) * sz ≤ (cap + i.ex) * sz := Nat.mul_le_mul_right _ hge
                            rw [Nat.add_mul, Nat.add_mul] at hmul
                            have hend : i.off + ad.off + len * sz + n * sz ≤ cc.size := by omega
                            have hrun := run_storeCells_cells (P := P) i.blk (i.off + ad.off + len * sz) c'.toList 0 w (fun j hj => by
                                rw [Nat.add_zero, cell_heap hblk, Array.getElem?_eq_getElem (by rw [hc'l] at hj; omega)]; rfl)
                              (fun j hj => by
                                rw [hc'l] at hj
                                have h3 := hfr.out (i.off + ad.off + len * sz + 0 + j) (by omega)
                                simp only [World.frozen?, hblk]
                                simpa using h3) (ones_run ho hcR)
                            obtain ⟨cc', hb', hsz', hget'⟩ := setCells_heap i.blk c'.toList (i.off + ad.off + len * sz + 0) w cc e2 fr hblk
                            obtain ⟨r1, r2, r3, r4⟩ := setCells_rest i.blk c'.toList (i.off + ad.off + len * sz + 0) w
                            generalize hw' : w.setCells i.blk (i.off + ad.off + len * sz + 0) c'.toList = w' at *
                            have hoth : ∀ k, k ≠ i.blk → w'.heap[k]? = w.heap[k]? := fun k hk => by rw [← hw']; exact setCells_other _ _ _ _ _ hk
                            have H1 : HR P β (h.put ad.block .dead) w' := H.change hg hi trivial (fun k hk _ => hoth k hk) trivial
                            have S1 : St β h w β (h.put ad.block .dead) w' := ⟨.refl _, r1, r2, r3, by omega, fun k hk hno => hoth k (fun e => hno ⟨_, _, _, hg, trivial, hi, e.symm⟩), fun k hk => .inl (own_put H hg trivial hk), fun k hk => .inl (held_put H hg trivial hk)⟩
                            unfold newRow_ at hnew
                            cases hq : (h.put ad.block .dead).new (.cells (l ++ c) e' false false) with
                            | none => rw [hq] at hnew; cases hnew
                            | some q =>
                              obtain ⟨nb, h3⟩ := q
                              rw [hq] at hnew
                              simp only [Option.some.injEq, Prod.mk.injEq] at hnew
                              obtain ⟨rfl, rfl⟩ := hnew
                              let j : Info := ⟨i.blk, i.off + ad.off, cap + i.ex - (len + n)⟩
                              have hmul2 : (cap + i.ex - (len + n)) * sz = (cap * sz + i.ex * sz) - (len * sz + n * sz) := by rw [Nat.sub_mul, Nat.add_mul, Nat.add_mul]
                              have hbig : β.le (β.put (h.put ad.block .dead).next j) := H1.le_put j
                              have H2 := H1.grow hq j (fun _ _ _ _ _ _ => rfl) (by
                                refine .inr ⟨cc', e2, fr, hb', ?_, fun k u v hu hv' => ?_, (fun h => by cases h), fun _ => ⟨hee, by rw [hsz']; exact hfr, ?_⟩⟩
                                · rw [hsz']
                                  simp only [List.length_append, hll, hcl]
                                  show i.off + ad.off + (len * sz + n * sz) ≤ cc.size
                                  omega
                                · refine VR.mono hbig ?_
                                  rw [hget'] at hv'
                                  rcases Nat.lt_or_ge k (len * sz) with hk | hk
                                  · rw [List.getElem?_append_left (by rw [hll]; exact hk)] at hu
                                    rw [if_neg (by rintro ⟨h1, _⟩; exact absurd h1 (by show ¬ (i.off + ad.off + len * sz + 0 ≤ i.off + ad.off + k); omega))] at hv'
                                    rw [lcut_get hcut k hk] at hu
                                    exact hv _ _ _ hu (by rw [← Nat.add_assoc]; exact hv')
                                  · have hk2 : k < len * sz + n * sz := by
                                      have := (List.getElem?_eq_some_iff.1 hu).1
                                      simp only [List.length_append, hll, hcl] at this
                                      exact this
                                    rw [List.getElem?_append_right (by rw [hll]; exact hk), hll] at hu
                                    rw [if_pos (by refine ⟨?_, ?_, ?_⟩ <;> (show _ ; (try rw [hc'l])); all_goals (simp only [j]; omega))] at hv'
                                    have e3 : j.off + k - (i.off + ad.off + len * sz + 0) = k - len * sz := by simp only [j]; omega
                                    rw [e3] at hv'
                                    exact hcR.2 _ _ _ hu hv'
                                · rw [hsz', hcell]
                                  simp only [List.length_append, hll, hcl]
                                  show i.off + ad.off + (len * sz + n * sz) + (cap + i.ex - (len + n)) * sz ≤ cc.size
                                  rw [hmul2]
                                  omega) (by
                                intro _ b y jj hgb hjb hne
                                have hlt2 := H.dom _ _ hi
                                have hmost := H.most
                                rw [Hp.get_put (by omega)] at hgb
                                by_cases hbe : b = ad.block
                                · subst hbe
                                  rw [if_pos rfl] at hgb
                                  injection hgb with hgb
                                  subst hgb
                                  exact absurd trivial hne
                                · rw [if_neg hbe] at hgb
                                  exact (show jj.blk ≠ i.blk from Ne.symm (H.apart _ _ _ _ _ _ hg hgb (Ne.symm hbe) hi hjb trivial hne)))
                              refine ⟨.slice (some ⟨i.blk, i.off + ad.off, none⟩) (len + n) (cap + i.ex), w', _, append_here hp (h' := h) (w' := w') H hu1 hu2 hd2 hsz hn hx hge ty (fun c2 hc2 hcr2 => ?_), H2, ⟨hbig, r1, r2, r3, by omega, fun k hk hno => hoth k (fun e => hno ⟨_, _, _, hg, trivial, hi, e.symm⟩), fun k hk => .inl ?_, fun k hk => .inl ?_⟩, ?_⟩
                              · have e1 := hcr w rfl
                                have e2 := hcr2 w rfl
                                rw [e1] at e2
                                injection e2 with e2
                                subst e2
                                rw [add_none]
                                exact hrun
                              · rcases own_grow H1 hq j hk with h5 | ⟨_, h5⟩
                                · exact own_put H hg trivial h5
                                · exact ⟨_, _, _, hg, trivial, hi, h5⟩
                              · rcases held_grow H1 hq j hk with h5 | ⟨_, h5⟩
                                · exact held_put H hg trivial h5
                                · exact ⟨_, _, _, hg, mine_not_empty trivial, hi, h5⟩
                              · obtain ⟨hnb, _⟩ := Hp.new_some hq
                                rw [hnb]
                                have := VR.slice 0 (len + n) (len + n) (Bt.put_same β (h.put ad.block .dead).next j)
                                simp only [j, Nat.add_zero] at this
                                rw [show len + n + (cap + i.ex - (len + n)) = cap + i.ex from by omega] at this
                                exact this
                · cases ha
          · cases ha
      · cases ha
    · cases ha
  · cases ha
omit hp in
theorem sight_does {β : Bt} {h h' : Hp} {w : World} (H : HR P β h w) {v v2 x : Value} (hs : sight_ v h = some (v2, h')) (hv : VR β v x) : ∃ β', HR P β' h' w ∧ St β h w β' h' w ∧ VR β' v2 x := by
  unfold sight_ at hs
  split at hs
  · rename_i a n c
    split at hs
    · rename_i he hb
      cases hn : h.new (.view a.block) with
      | none => rw [hn] at hs; cases hs
      | some q =>
        obtain ⟨nb, h2⟩ := q
        rw [hn] at hs
        simp only [Option.some.injEq, Prod.mk.injEq] at hs
        obtain ⟨rfl, rfl⟩ := hs
        obtain ⟨i, _, hi, _⟩ := hv.slice_inv
        have hb2 : a.block ≠ h.next := fun e => by rw [e, H.new_id] at hi; cases hi
        refine ⟨_, H.grow hn ⟨i.blk, i.off, 0⟩ (fun _ _ _ _ _ _ => rfl) ⟨rfl, i, by rw [Bt.put_other _ _ hb2]; exact hi, rfl, rfl⟩ (fun he => absurd trivial he), ⟨H.le_put _, rfl, rfl, rfl, Nat.le_refl _, fun _ _ _ => rfl, fun k hk => ?_, fun k hk => ?_⟩, hv.mono (H.le_put _)⟩
        · rcases own_grow H hn _ hk with h5 | ⟨h5, _⟩
          · exact .inl h5
          · exact h5.elim
        · rcases held_grow H hn _ hk with h5 | ⟨h5, _⟩
          · exact .inl h5
          · exact absurd trivial h5
    · simp only [Option.some.injEq, Prod.mk.injEq] at hs
      obtain ⟨rfl, rfl⟩ := hs
      exact ⟨β, H, .refl _ _ _, hv⟩
  · simp only [Option.some.injEq, Prod.mk.injEq] at hs
    obtain ⟨rfl, rfl⟩ := hs
    exact ⟨β, H, .refl _ _ _, hv⟩
theorem append_does {β : Bt} {h h' : Hp} {w : World} (H : HR P β h w) {t1 t2 : TypeId} {s x s' x' v : Value} (ha : append_ (Env.of P eqs) t1 t2 s x h = some (v, h')) (hs : VR β s s') (hx : VR β x x') (ty : TypeId) :
    Does P β h w (Builtin.append_ #[t1, t2] ty #[s', x']) v h' := by
  unfold append_ at ha
  cases h0 : append0_ (Env.of P eqs) t1 t2 s x h with
  | none => rw [h0] at ha; cases ha
  | some q =>
    obtain ⟨v0, h1⟩ := q
    rw [h0] at ha
    obtain ⟨v1, w1, β1, hr, H1, S1, R1⟩ := append0_does hp H h0 hs hx ty
    obtain ⟨β2, H2, S2, R2⟩ := sight_does H1 ha R1
    exact ⟨v1, w1, β2, hr, H2, S1.trans S2, R2⟩
end
end Go.Proofs.YthloojeefdjpjaaGreatDoor
