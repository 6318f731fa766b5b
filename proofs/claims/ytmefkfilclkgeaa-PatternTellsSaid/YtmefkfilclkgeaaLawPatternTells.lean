import Derived.Test.YtmefkfilclkgeaaPatD
import Derived.Test.YtmefkfilclkgeaaLawPatternRuns
import Derived.Laws.BytesString
import Derived.BigRegion
import Derived.Deep.RegionWith
import Derived.BigQuiet
import Derived.OpenShut
import Derived.ShutString
namespace Go.Proofs.Ytmefkfilclkgeaa.pattern
open Go.ChangeShapes Go.WideShapes Go.ChangeAt Go.RowKit
set_option linter.unusedVariables false
def strI (l : List Int) : ByteArray := l.foldl (fun r n => r.push (UInt8.ofNat n.toNat)) ByteArray.empty
theorem conv_own {w : World} {B : Nat} {v : Value} {n : Nat} {l : List Int} (h : w.ownsRow B 5 1 v n (l.map (Value.int .u8))) :
    Sem.run Try.prog (Go.convert 22 9 v) w = .ok (Value.string (strI l)) w := by
  have hl := h.1
  simp only [List.length_map, Nat.mul_one] at hl
  have hh := h
  obtain ⟨_, ⟨rfl, rfl⟩ | ⟨g, cap, cur, rfl, _, hc, _, _, _, ht⟩⟩ := h
  · obtain rfl : l = [] := List.eq_nil_of_length_eq_zero hl
    have k : Sem.run Try.prog (Go.convert 22 9 (Value.slice none 0 0)) w = .ok (Value.string (strI [])) w := by kernel_rfl
    exact k
  · refine (run_convert_bytes_string w 22 9 5 _ _ _ Try.underlying22 Try.underlying5 Try.underlying9).trans ?_
    refine run_bytesToString w _ _ _ l ?_
    have := run_loadCells_list (P := Try.prog) w ⟨g, 0, none⟩ (l.map (Value.int .u8)) (fun j u hu => hh.cells rfl j u hu)
    rwa [List.length_map, hl] at this
theorem own_below {w w' : World} {B e sz : Nat} {v : Value} {n : Nat} {xs : List Value} (h : w.ownsRow B e sz v n xs) (k : Below w.heap.size w w') : w'.ownsRow B e sz v n xs := by
  obtain ⟨hl, h | ⟨g, cap, cur, hv, hb, hc, r⟩⟩ := h
  · exact ⟨hl, .inl h⟩
  · refine ⟨hl, .inr ⟨g, cap, cur, hv, hb, ?_, r⟩⟩
    rw [k.block g (by by_cases q : g < w.heap.size; exact q; rw [Array.getElem?_eq_none (by omega)] at hc; cases hc)]
    exact hc
def noiseG (s p k : Int) : Int := if p < 0 ∨ k < 0 then 0 else noiseI s p k
theorem noiseG_walk (s p k : Int) (w : World) : Calls Try.prog 13 #[.int .u64 s, .int .i64 p, .int .i64 k] w fun e w' => e = .returned (.int .u8 (noiseG s p k)) ∧ w' = w := by
  unfold noiseG
  split
  · exact noise_no _ _ _ (by assumption) _
  · exact noise_walk _ _ _ (by omega) (by omega) _
theorem rnoiseG_walk (s p k : Int) (w : World) : Calls Try.prog 14 #[.int .u64 s, .int .i64 p, .int .i64 k] w fun e w' => e = .returned (.int .u8 (noiseG s p k)) ∧ w' = w := by
  unfold noiseG
  split
  · exact rnoise_no _ _ _ (by assumption) _
  · exact rnoise_walk _ _ _ (by omega) (by omega) _
def bytesG (s p q pos n : Int) : List Int := if pos < 0 ∨ n < 0 ∨ 4096 < n ∨ 1099511627776 < pos then [] else bytesI s p q pos n.toNat
theorem bytesG_walk (s p q pos n : Int) (hq : q ≤ 9223372036854775807) (w : World) :
    Calls Try.prog 11 #[.int .u64 s, .int .i64 p, .int .i64 q, .int .i64 pos, .int .i64 n] w (Got w (bytesG s p q pos n)) := by
  unfold bytesG
  split
  · exact bytes_none _ _ _ _ _ (by assumption) _
  · have e : n = ((n.toNat : Nat) : Int) := by omega
    conv => enter [3]; rw [e]
    exact bytes_walk _ _ _ _ _ (by omega) (by omega) (by omega) hq _
theorem rbytesG_walk (s p q pos n : Int) (hq : q ≤ 9223372036854775807) (w : World) :
    Calls Try.prog 16 #[.int .u64 s, .int .i64 p, .int .i64 q, .int .i64 pos, .int .i64 n] w (Got w (bytesG s p q pos n)) := by
  unfold bytesG
  split
  · exact rbytes_none _ _ _ _ _ (by assumption) _
  · have e : n = ((n.toNat : Nat) : Int) := by omega
    conv => enter [3]; rw [e]
    exact rbytes_walk _ _ _ _ _ (by omega) (by omega) (by omega) hq _
end Go.Proofs.Ytmefkfilclkgeaa.pattern
namespace Go.Proofs.Ytmefkfilclkgeaa.patternTells
open Go.ChangeShapes Go.WideShapes Go.ChangeAt Go.RowKit
open Go.Proofs.Ytmefkfilclkgeaa.pattern
set_option linter.unusedVariables false
/-- since a world, nothing that was there has turned -/
def Since (w w' : World) : Prop := Below w.heap.size w w'
theorem Since.refl (w : World) : Since w w := Below.refl _ _
theorem Since.on {w w1 w2 : World} (h : Since w w1) (k : Below w1.heap.size w1 w2) : Since w w2 := Below.trans h (k.mono h.size)
theorem many (s p q k n : Int) (h1 : 500 < n) (h2 : n ≤ 4096) (w : World) :
    Calls Try.prog 4 #[.int .u64 s, .int .i64 p, .int .i64 q, .int .i64 k, .int .i64 n] w fun e w' => e = .returned (.bool true) ∧ Since w w' := by
  have hS : Since w w := .refl w
  go_enter Try.func4, Try.ntmps4
  go_wp2_with (go_at_call 3; refine (patternRuns.walk _).mono ?_; rintro e w' ⟨rfl, hb⟩; replace hS := hS.on hb; clear hb)
  go_ret
  exact ⟨rfl, hS⟩
set_option maxHeartbeats 4000000 in
set_option maxRecDepth 1000000 in
theorem few_ (s p q k n X Y : Int) (L : List Int) (h1 : ¬ 500 < n) (w : World)
    (x13 : ∀ w, Calls Try.prog 13 #[.int .u64 s, .int .i64 p, .int .i64 k] w fun e w' => e = .returned (.int .u8 X) ∧ w' = w)
    (x14 : ∀ w, Calls Try.prog 14 #[.int .u64 s, .int .i64 p, .int .i64 k] w fun e w' => e = .returned (.int .u8 X) ∧ w' = w)
    (x12 : ∀ w, Calls Try.prog 12 #[.int .u64 s, .int .i64 p, .int .i64 q, .int .i64 k] w fun e w' => e = .returned (.int .u8 Y) ∧ w' = w)
    (x15 : ∀ w, Calls Try.prog 15 #[.int .u64 s, .int .i64 p, .int .i64 q, .int .i64 k] w fun e w' => e = .returned (.int .u8 Y) ∧ Once w w')
    (x11 : ∀ w, Calls Try.prog 11 #[.int .u64 s, .int .i64 p, .int .i64 q, .int .i64 k, .int .i64 n] w (Got w L))
    (x16 : ∀ w, Calls Try.prog 16 #[.int .u64 s, .int .i64 p, .int .i64 q, .int .i64 k, .int .i64 n] w (Got w L)) :
    Calls Try.prog 4 #[.int .u64 s, .int .i64 p, .int .i64 q, .int .i64 k, .int .i64 n] w fun e w' => e = .returned (.bool true) ∧ Since w w' := by
  have hS : Since w w := .refl w
  go_enter Try.func4, Try.ntmps4
  go_wp2
  refine wp_region_any (by kernel_rfl) ?_
  change wpAny _ _ _ _ _ _ _ (World.drew _)
  replace hS : Since w w.drew := Below.drew hS
  refine wpAny_take (i := 0) (v := Value.int IntKind.u64 s) rfl (by kernel_rfl) (by kernel_rfl) (by kernel_rfl) (fun _ _ _ h => h) (Or.inl ⟨by kernel_rfl, fun w => by kernel_rfl⟩) ?_
  refine wpAny_take (i := 1) (v := Value.int IntKind.i64 p) rfl (by kernel_rfl) (by kernel_rfl) (by kernel_rfl) (fun _ _ _ h => h) (Or.inl ⟨by kernel_rfl, fun w => by kernel_rfl⟩) ?_
  refine wpAny_take (i := 2) (v := Value.int IntKind.i64 k) rfl (by kernel_rfl) (by kernel_rfl) (by kernel_rfl) (fun _ _ _ h => h) (Or.inl ⟨by kernel_rfl, fun w => by kernel_rfl⟩) ?_
  refine wpAny_take (i := 4) (v := Value.int IntKind.u64 s) rfl (by kernel_rfl) (by kernel_rfl) (by kernel_rfl) (fun _ _ _ h => h) (Or.inl ⟨by kernel_rfl, fun w => by kernel_rfl⟩) ?_
  refine wpAny_take (i := 5) (v := Value.int IntKind.i64 p) rfl (by kernel_rfl) (by kernel_rfl) (by kernel_rfl) (fun _ _ _ h => h) (Or.inl ⟨by kernel_rfl, fun w => by kernel_rfl⟩) ?_
  refine wpAny_take (i := 6) (v := Value.int IntKind.i64 k) rfl (by kernel_rfl) (by kernel_rfl) (by kernel_rfl) (fun _ _ _ h => h) (Or.inl ⟨by kernel_rfl, fun w => by kernel_rfl⟩) ?_
  refine wpAny_ready (rs := [3]) (by kernel_rfl) (by simp) ?_
  refine AllReady.cons rfl (fun K hK => ?_) AllReady.nil
  rw [if_pos (by kernel_rfl)]
  go_simp
  go_wp2_with (go_at_call 13; refine (x13 _).mono ?_; rintro e w' ⟨rfl, rfl⟩)
  refine wpAny_ready (rs := [7]) (by kernel_rfl) (by simp) ?_
  refine AllReady.cons rfl (fun K hK => ?_) AllReady.nil
  rw [if_pos (by kernel_rfl)]
  go_simp
  go_wp2_with (go_at_call 14; refine (x14 _).mono ?_; rintro e w' ⟨rfl, rfl⟩)
  refine wpAny_take (i := 8) (v := Value.bool true) rfl (by kernel_rfl) (by kernel_rfl) (by kernel_rfl) (fun _ _ _ h => h) (Or.inl ⟨by kernel_rfl, fun w => by go_simp⟩) ?_
  refine wpAny_take (i := 9) (v := Value.bool true) rfl (by kernel_rfl) (by kernel_rfl) (by kernel_rfl) (fun _ _ _ h => h) (Or.inl ⟨by kernel_rfl, fun w => by kernel_rfl⟩) ?_
  refine wpAny_take (i := 10) (v := Value.int IntKind.u64 s) rfl (by kernel_rfl) (by kernel_rfl) (by kernel_rfl) (fun _ _ _ h => h) (Or.inl ⟨by kernel_rfl, fun w => by kernel_rfl⟩) ?_
  refine wpAny_take (i := 11) (v := Value.int IntKind.i64 p) rfl (by kernel_rfl) (by kernel_rfl) (by kernel_rfl) (fun _ _ _ h => h) (Or.inl ⟨by kernel_rfl, fun w => by kernel_rfl⟩) ?_
  refine wpAny_take (i := 12) (v := Value.int IntKind.i64 q) rfl (by kernel_rfl) (by kernel_rfl) (by kernel_rfl) (fun _ _ _ h => h) (Or.inl ⟨by kernel_rfl, fun w => by kernel_rfl⟩) ?_
  refine wpAny_take (i := 13) (v := Value.int IntKind.i64 k) rfl (by kernel_rfl) (by kernel_rfl) (by kernel_rfl) (fun _ _ _ h => h) (Or.inl ⟨by kernel_rfl, fun w => by kernel_rfl⟩) ?_
  refine wpAny_take (i := 15) (v := Value.int IntKind.u64 s) rfl (by kernel_rfl) (by kernel_rfl) (by kernel_rfl) (fun _ _ _ h => h) (Or.inl ⟨by kernel_rfl, fun w => by kernel_rfl⟩) ?_
  refine wpAny_take (i := 16) (v := Value.int IntKind.i64 p) rfl (by kernel_rfl) (by kernel_rfl) (by kernel_rfl) (fun _ _ _ h => h) (Or.inl ⟨by kernel_rfl, fun w => by kernel_rfl⟩) ?_
  refine wpAny_take (i := 17) (v := Value.int IntKind.i64 q) rfl (by kernel_rfl) (by kernel_rfl) (by kernel_rfl) (fun _ _ _ h => h) (Or.inl ⟨by kernel_rfl, fun w => by kernel_rfl⟩) ?_
  refine wpAny_take (i := 18) (v := Value.int IntKind.i64 k) rfl (by kernel_rfl) (by kernel_rfl) (by kernel_rfl) (fun _ _ _ h => h) (Or.inl ⟨by kernel_rfl, fun w => by kernel_rfl⟩) ?_
  refine wpAny_ready (rs := [14]) (by kernel_rfl) (by simp) ?_
  refine AllReady.cons rfl (fun K hK => ?_) AllReady.nil
  rw [if_pos (by kernel_rfl)]
  go_simp
  go_wp2_with (go_at_call 12; refine (x12 _).mono ?_; rintro e w' ⟨rfl, rfl⟩)
  refine wpAny_ready (rs := [19]) (by kernel_rfl) (by simp) ?_
  refine AllReady.cons rfl (fun K hK => ?_) AllReady.nil
  rw [if_pos (by kernel_rfl)]
  go_simp
  go_wp2_with (go_at_call 15; refine (x15 _).mono ?_; rintro e w1 ⟨rfl, ho⟩; replace hS := hS.on ho.below; clear ho)
  refine wpAny_take (i := 20) (v := Value.bool true) rfl (by kernel_rfl) (by kernel_rfl) (by kernel_rfl) (fun _ _ _ h => h) (Or.inl ⟨by kernel_rfl, fun w => by go_simp⟩) ?_
  refine wpAny_take (i := 21) (v := Value.bool true) rfl (by kernel_rfl) (by kernel_rfl) (by kernel_rfl) (fun _ _ _ h => h) (Or.inl ⟨by kernel_rfl, fun w => by kernel_rfl⟩) ?_
  refine wpAny_take (i := 22) (v := Value.bool true) rfl (by kernel_rfl) (by kernel_rfl) (by kernel_rfl) (fun _ _ _ h => h) (Or.inl ⟨by kernel_rfl, fun w => by kernel_rfl⟩) ?_
  refine wpAny_take (i := 23) (v := Value.int IntKind.u64 s) rfl (by kernel_rfl) (by kernel_rfl) (by kernel_rfl) (fun _ _ _ h => h) (Or.inl ⟨by kernel_rfl, fun w => by kernel_rfl⟩) ?_
  refine wpAny_take (i := 24) (v := Value.int IntKind.i64 p) rfl (by kernel_rfl) (by kernel_rfl) (by kernel_rfl) (fun _ _ _ h => h) (Or.inl ⟨by kernel_rfl, fun w => by kernel_rfl⟩) ?_
  refine wpAny_take (i := 25) (v := Value.int IntKind.i64 q) rfl (by kernel_rfl) (by kernel_rfl) (by kernel_rfl) (fun _ _ _ h => h) (Or.inl ⟨by kernel_rfl, fun w => by kernel_rfl⟩) ?_
  refine wpAny_take (i := 26) (v := Value.int IntKind.i64 k) rfl (by kernel_rfl) (by kernel_rfl) (by kernel_rfl) (fun _ _ _ h => h) (Or.inl ⟨by kernel_rfl, fun w => by kernel_rfl⟩) ?_
  refine wpAny_take (i := 27) (v := Value.int IntKind.i64 n) rfl (by kernel_rfl) (by kernel_rfl) (by kernel_rfl) (fun _ _ _ h => h) (Or.inl ⟨by kernel_rfl, fun w => by kernel_rfl⟩) ?_
  refine wpAny_take (i := 30) (v := Value.int IntKind.u64 s) rfl (by kernel_rfl) (by kernel_rfl) (by kernel_rfl) (fun _ _ _ h => h) (Or.inl ⟨by kernel_rfl, fun w => by kernel_rfl⟩) ?_
  refine wpAny_take (i := 31) (v := Value.int IntKind.i64 p) rfl (by kernel_rfl) (by kernel_rfl) (by kernel_rfl) (fun _ _ _ h => h) (Or.inl ⟨by kernel_rfl, fun w => by kernel_rfl⟩) ?_
  refine wpAny_take (i := 32) (v := Value.int IntKind.i64 q) rfl (by kernel_rfl) (by kernel_rfl) (by kernel_rfl) (fun _ _ _ h => h) (Or.inl ⟨by kernel_rfl, fun w => by kernel_rfl⟩) ?_
  refine wpAny_take (i := 33) (v := Value.int IntKind.i64 k) rfl (by kernel_rfl) (by kernel_rfl) (by kernel_rfl) (fun _ _ _ h => h) (Or.inl ⟨by kernel_rfl, fun w => by kernel_rfl⟩) ?_
  refine wpAny_take (i := 34) (v := Value.int IntKind.i64 n) rfl (by kernel_rfl) (by kernel_rfl) (by kernel_rfl) (fun _ _ _ h => h) (Or.inl ⟨by kernel_rfl, fun w => by kernel_rfl⟩) ?_
  refine wpAny_ready (rs := [28]) (by kernel_rfl) (by simp) ?_
  refine AllReady.cons rfl (fun K hK => ?_) AllReady.nil
  rw [if_pos (by kernel_rfl)]
  go_simp
  go_wp2_with (go_at_call 11; refine (x11 _).mono ?_; rintro e w2 ⟨v1, rfl, hv1, hb⟩; have c1 := conv_own hv1; replace hS := hS.on hb; clear hb)
  refine wpAny_ready (rs := [29, 35]) (by kernel_rfl) (by simp) ?_
  refine AllReady.cons rfl (fun K hK => ?_) (AllReady.cons rfl (fun K hK => ?_) AllReady.nil)
  · skip
    rw [if_pos (by kernel_rfl)]
    go_simp
    refine hK _ _ ?_
    clear hK K
    refine wpAny_ready (rs := [35]) (by kernel_rfl) (by simp) ?_
    refine AllReady.cons rfl (fun K hK => ?_) AllReady.nil
    rw [if_pos (by kernel_rfl)]
    go_simp
    go_wp2_with (go_at_call 16; refine (x16 _).mono ?_; rintro e w3 ⟨v2, rfl, hv2, hb⟩; have c2 := conv_own hv2; have c3 := conv_own (own_below hv1 hb); replace hS := hS.on hb; clear hb)
    refine wpAny_ready (rs := [36]) (by kernel_rfl) (by simp) ?_
    refine AllReady.cons rfl (fun K hK => ?_) AllReady.nil
    rw [if_pos (by kernel_rfl)]
    go_simp
    refine hK _ _ ?_
    clear hK K
    refine wpAny_take (i := 37) (v := Value.bool true) rfl (by kernel_rfl) (by kernel_rfl) (by kernel_rfl) (fun _ _ _ h => h) (Or.inl ⟨by kernel_rfl, fun w => by go_simp⟩) ?_
    refine wpAny_take (i := 38) (v := Value.bool true) rfl (by kernel_rfl) (by kernel_rfl) (by kernel_rfl) (fun _ _ _ h => h) (Or.inl ⟨by kernel_rfl, fun w => by kernel_rfl⟩) ?_
    refine wpAny_take (i := 39) (v := Value.bool true) rfl (by kernel_rfl) (by kernel_rfl) (by kernel_rfl) (fun _ _ _ h => h) (Or.inl ⟨by kernel_rfl, fun w => by kernel_rfl⟩) ?_
    refine wpAny_ready (rs := [40]) (by kernel_rfl) (by simp) ?_
    refine AllReady.cons rfl (fun K hK => ?_) AllReady.nil
    rw [if_pos (by kernel_rfl)]
    go_simp
    go_wp2_with (go_at_call 3; refine (patternRuns.walk _).mono ?_; rintro e w4 ⟨rfl, hb⟩; replace hS := hS.on hb; clear hb)
    refine wpAny_take (i := 41) (v := Value.bool true) rfl (by kernel_rfl) (by kernel_rfl) (by kernel_rfl) (fun _ _ _ h => h) (Or.inl ⟨by kernel_rfl, fun w => by kernel_rfl⟩) ?_
    refine wpAny_take (i := 42) (v := Value.bool true) rfl (by kernel_rfl) (by kernel_rfl) (by kernel_rfl) (fun _ _ _ h => h) (Or.inl ⟨by kernel_rfl, fun w => by kernel_rfl⟩) ?_
    refine wpAny_done (by kernel_rfl) ?_ _
    go_wp2
    go_ret
    exact ⟨rfl, hS⟩
  · skip
    rw [if_pos (by kernel_rfl)]
    go_simp
    go_wp2_with (go_at_call 16; refine (x16 _).mono ?_; rintro e w3 ⟨v2, rfl, hv2, hb⟩; have c2 := conv_own hv2; have c3 := conv_own (own_below hv1 hb); replace hS := hS.on hb; clear hb)
    refine wpAny_ready (rs := [29, 36]) (by kernel_rfl) (by simp) ?_
    refine AllReady.cons rfl (fun K hK => ?_) (AllReady.cons rfl (fun K hK => ?_) AllReady.nil)
    · skip
      rw [if_pos (by kernel_rfl)]
      go_simp
      refine hK _ _ ?_
      clear hK K
      refine wpAny_ready (rs := [36]) (by kernel_rfl) (by simp) ?_
      refine AllReady.cons rfl (fun K hK => ?_) AllReady.nil
      rw [if_pos (by kernel_rfl)]
      go_simp
      refine hK _ _ ?_
      clear hK K
      refine wpAny_take (i := 37) (v := Value.bool true) rfl (by kernel_rfl) (by kernel_rfl) (by kernel_rfl) (fun _ _ _ h => h) (Or.inl ⟨by kernel_rfl, fun w => by go_simp⟩) ?_
      refine wpAny_take (i := 38) (v := Value.bool true) rfl (by kernel_rfl) (by kernel_rfl) (by kernel_rfl) (fun _ _ _ h => h) (Or.inl ⟨by kernel_rfl, fun w => by kernel_rfl⟩) ?_
      refine wpAny_take (i := 39) (v := Value.bool true) rfl (by kernel_rfl) (by kernel_rfl) (by kernel_rfl) (fun _ _ _ h => h) (Or.inl ⟨by kernel_rfl, fun w => by kernel_rfl⟩) ?_
      refine wpAny_ready (rs := [40]) (by kernel_rfl) (by simp) ?_
      refine AllReady.cons rfl (fun K hK => ?_) AllReady.nil
      rw [if_pos (by kernel_rfl)]
      go_simp
      go_wp2_with (go_at_call 3; refine (patternRuns.walk _).mono ?_; rintro e w4 ⟨rfl, hb⟩; replace hS := hS.on hb; clear hb)
      refine wpAny_take (i := 41) (v := Value.bool true) rfl (by kernel_rfl) (by kernel_rfl) (by kernel_rfl) (fun _ _ _ h => h) (Or.inl ⟨by kernel_rfl, fun w => by kernel_rfl⟩) ?_
      refine wpAny_take (i := 42) (v := Value.bool true) rfl (by kernel_rfl) (by kernel_rfl) (by kernel_rfl) (fun _ _ _ h => h) (Or.inl ⟨by kernel_rfl, fun w => by kernel_rfl⟩) ?_
      refine wpAny_done (by kernel_rfl) ?_ _
      go_wp2
      go_ret
      exact ⟨rfl, hS⟩
    · skip
      rw [if_pos (by kernel_rfl)]
      go_simp
      refine hK _ _ ?_
      clear hK K
      refine wpAny_ready (rs := [29]) (by kernel_rfl) (by simp) ?_
      refine AllReady.cons rfl (fun K hK => ?_) AllReady.nil
      rw [if_pos (by kernel_rfl)]
      go_simp
      refine hK _ _ ?_
      clear hK K
      refine wpAny_take (i := 37) (v := Value.bool true) rfl (by kernel_rfl) (by kernel_rfl) (by kernel_rfl) (fun _ _ _ h => h) (Or.inl ⟨by kernel_rfl, fun w => by go_simp⟩) ?_
      refine wpAny_take (i := 38) (v := Value.bool true) rfl (by kernel_rfl) (by kernel_rfl) (by kernel_rfl) (fun _ _ _ h => h) (Or.inl ⟨by kernel_rfl, fun w => by kernel_rfl⟩) ?_
      refine wpAny_take (i := 39) (v := Value.bool true) rfl (by kernel_rfl) (by kernel_rfl) (by kernel_rfl) (fun _ _ _ h => h) (Or.inl ⟨by kernel_rfl, fun w => by kernel_rfl⟩) ?_
      refine wpAny_ready (rs := [40]) (by kernel_rfl) (by simp) ?_
      refine AllReady.cons rfl (fun K hK => ?_) AllReady.nil
      rw [if_pos (by kernel_rfl)]
      go_simp
      go_wp2_with (go_at_call 3; refine (patternRuns.walk _).mono ?_; rintro e w4 ⟨rfl, hb⟩; replace hS := hS.on hb; clear hb)
      refine wpAny_take (i := 41) (v := Value.bool true) rfl (by kernel_rfl) (by kernel_rfl) (by kernel_rfl) (fun _ _ _ h => h) (Or.inl ⟨by kernel_rfl, fun w => by kernel_rfl⟩) ?_
      refine wpAny_take (i := 42) (v := Value.bool true) rfl (by kernel_rfl) (by kernel_rfl) (by kernel_rfl) (fun _ _ _ h => h) (Or.inl ⟨by kernel_rfl, fun w => by kernel_rfl⟩) ?_
      refine wpAny_done (by kernel_rfl) ?_ _
      go_wp2
      go_ret
      exact ⟨rfl, hS⟩
set_option maxHeartbeats 4000000 in
set_option maxRecDepth 1000000 in
theorem far (s p q k n X Y : Int) (L : List Int) (h1 : 4096 < n) (w : World)
    (x13 : ∀ w, Calls Try.prog 13 #[.int .u64 s, .int .i64 p, .int .i64 k] w fun e w' => e = .returned (.int .u8 X) ∧ w' = w)
    (x14 : ∀ w, Calls Try.prog 14 #[.int .u64 s, .int .i64 p, .int .i64 k] w fun e w' => e = .returned (.int .u8 X) ∧ w' = w)
    (x12 : ∀ w, Calls Try.prog 12 #[.int .u64 s, .int .i64 p, .int .i64 q, .int .i64 k] w fun e w' => e = .returned (.int .u8 Y) ∧ w' = w)
    (x15 : ∀ w, Calls Try.prog 15 #[.int .u64 s, .int .i64 p, .int .i64 q, .int .i64 k] w fun e w' => e = .returned (.int .u8 Y) ∧ Once w w')
    (x11 : ∀ w, Calls Try.prog 11 #[.int .u64 s, .int .i64 p, .int .i64 q, .int .i64 k, .int .i64 n] w (Got w L))
    (x16 : ∀ w, Calls Try.prog 16 #[.int .u64 s, .int .i64 p, .int .i64 q, .int .i64 k, .int .i64 n] w (Got w L)) :
    Calls Try.prog 4 #[.int .u64 s, .int .i64 p, .int .i64 q, .int .i64 k, .int .i64 n] w fun e w' => e = .returned (.bool true) ∧ Since w w' := by
  have hS : Since w w := .refl w
  have h2 : 500 < n := by omega
  go_enter Try.func4, Try.ntmps4
  go_wp2
  refine wp_region_any (by kernel_rfl) ?_
  change wpAny _ _ _ _ _ _ _ (World.drew _)
  replace hS : Since w w.drew := Below.drew hS
  refine wpAny_take (i := 0) (v := Value.int IntKind.u64 s) rfl (by kernel_rfl) (by kernel_rfl) (by kernel_rfl) (fun _ _ _ h => h) (Or.inl ⟨by kernel_rfl, fun w => by kernel_rfl⟩) ?_
  refine wpAny_take (i := 1) (v := Value.int IntKind.i64 p) rfl (by kernel_rfl) (by kernel_rfl) (by kernel_rfl) (fun _ _ _ h => h) (Or.inl ⟨by kernel_rfl, fun w => by kernel_rfl⟩) ?_
  refine wpAny_take (i := 2) (v := Value.int IntKind.i64 k) rfl (by kernel_rfl) (by kernel_rfl) (by kernel_rfl) (fun _ _ _ h => h) (Or.inl ⟨by kernel_rfl, fun w => by kernel_rfl⟩) ?_
  refine wpAny_take (i := 4) (v := Value.int IntKind.u64 s) rfl (by kernel_rfl) (by kernel_rfl) (by kernel_rfl) (fun _ _ _ h => h) (Or.inl ⟨by kernel_rfl, fun w => by kernel_rfl⟩) ?_
  refine wpAny_take (i := 5) (v := Value.int IntKind.i64 p) rfl (by kernel_rfl) (by kernel_rfl) (by kernel_rfl) (fun _ _ _ h => h) (Or.inl ⟨by kernel_rfl, fun w => by kernel_rfl⟩) ?_
  refine wpAny_take (i := 6) (v := Value.int IntKind.i64 k) rfl (by kernel_rfl) (by kernel_rfl) (by kernel_rfl) (fun _ _ _ h => h) (Or.inl ⟨by kernel_rfl, fun w => by kernel_rfl⟩) ?_
  refine wpAny_ready (rs := [3]) (by kernel_rfl) (by simp) ?_
  refine AllReady.cons rfl (fun K hK => ?_) AllReady.nil
  rw [if_pos (by kernel_rfl)]
  go_simp
  go_wp2_with (go_at_call 13; refine (x13 _).mono ?_; rintro e w' ⟨rfl, rfl⟩)
  refine wpAny_ready (rs := [7]) (by kernel_rfl) (by simp) ?_
  refine AllReady.cons rfl (fun K hK => ?_) AllReady.nil
  rw [if_pos (by kernel_rfl)]
  go_simp
  go_wp2_with (go_at_call 14; refine (x14 _).mono ?_; rintro e w' ⟨rfl, rfl⟩)
  refine wpAny_take (i := 8) (v := Value.bool true) rfl (by kernel_rfl) (by kernel_rfl) (by kernel_rfl) (fun _ _ _ h => h) (Or.inl ⟨by kernel_rfl, fun w => by go_simp⟩) ?_
  refine wpAny_take (i := 9) (v := Value.bool true) rfl (by kernel_rfl) (by kernel_rfl) (by kernel_rfl) (fun _ _ _ h => h) (Or.inl ⟨by kernel_rfl, fun w => by kernel_rfl⟩) ?_
  refine wpAny_take (i := 10) (v := Value.int IntKind.u64 s) rfl (by kernel_rfl) (by kernel_rfl) (by kernel_rfl) (fun _ _ _ h => h) (Or.inl ⟨by kernel_rfl, fun w => by kernel_rfl⟩) ?_
  refine wpAny_take (i := 11) (v := Value.int IntKind.i64 p) rfl (by kernel_rfl) (by kernel_rfl) (by kernel_rfl) (fun _ _ _ h => h) (Or.inl ⟨by kernel_rfl, fun w => by kernel_rfl⟩) ?_
  refine wpAny_take (i := 12) (v := Value.int IntKind.i64 q) rfl (by kernel_rfl) (by kernel_rfl) (by kernel_rfl) (fun _ _ _ h => h) (Or.inl ⟨by kernel_rfl, fun w => by kernel_rfl⟩) ?_
  refine wpAny_take (i := 13) (v := Value.int IntKind.i64 k) rfl (by kernel_rfl) (by kernel_rfl) (by kernel_rfl) (fun _ _ _ h => h) (Or.inl ⟨by kernel_rfl, fun w => by kernel_rfl⟩) ?_
  refine wpAny_take (i := 15) (v := Value.int IntKind.u64 s) rfl (by kernel_rfl) (by kernel_rfl) (by kernel_rfl) (fun _ _ _ h => h) (Or.inl ⟨by kernel_rfl, fun w => by kernel_rfl⟩) ?_
  refine wpAny_take (i := 16) (v := Value.int IntKind.i64 p) rfl (by kernel_rfl) (by kernel_rfl) (by kernel_rfl) (fun _ _ _ h => h) (Or.inl ⟨by kernel_rfl, fun w => by kernel_rfl⟩) ?_
  refine wpAny_take (i := 17) (v := Value.int IntKind.i64 q) rfl (by kernel_rfl) (by kernel_rfl) (by kernel_rfl) (fun _ _ _ h => h) (Or.inl ⟨by kernel_rfl, fun w => by kernel_rfl⟩) ?_
  refine wpAny_take (i := 18) (v := Value.int IntKind.i64 k) rfl (by kernel_rfl) (by kernel_rfl) (by kernel_rfl) (fun _ _ _ h => h) (Or.inl ⟨by kernel_rfl, fun w => by kernel_rfl⟩) ?_
  refine wpAny_ready (rs := [14]) (by kernel_rfl) (by simp) ?_
  refine AllReady.cons rfl (fun K hK => ?_) AllReady.nil
  rw [if_pos (by kernel_rfl)]
  go_simp
  go_wp2_with (go_at_call 12; refine (x12 _).mono ?_; rintro e w' ⟨rfl, rfl⟩)
  refine wpAny_ready (rs := [19]) (by kernel_rfl) (by simp) ?_
  refine AllReady.cons rfl (fun K hK => ?_) AllReady.nil
  rw [if_pos (by kernel_rfl)]
  go_simp
  go_wp2_with (go_at_call 15; refine (x15 _).mono ?_; rintro e w1 ⟨rfl, ho⟩; replace hS := hS.on ho.below; clear ho)
  refine wpAny_take (i := 20) (v := Value.bool true) rfl (by kernel_rfl) (by kernel_rfl) (by kernel_rfl) (fun _ _ _ h => h) (Or.inl ⟨by kernel_rfl, fun w => by go_simp⟩) ?_
  refine wpAny_take (i := 21) (v := Value.bool true) rfl (by kernel_rfl) (by kernel_rfl) (by kernel_rfl) (fun _ _ _ h => h) (Or.inl ⟨by kernel_rfl, fun w => by kernel_rfl⟩) ?_
  refine wpAny_take (i := 22) (v := Value.bool true) rfl (by kernel_rfl) (by kernel_rfl) (by kernel_rfl) (fun _ _ _ h => h) (Or.inl ⟨by kernel_rfl, fun w => by kernel_rfl⟩) ?_
  refine wpAny_take (i := 23) (v := Value.int IntKind.u64 s) rfl (by kernel_rfl) (by kernel_rfl) (by kernel_rfl) (fun _ _ _ h => h) (Or.inl ⟨by kernel_rfl, fun w => by kernel_rfl⟩) ?_
  refine wpAny_take (i := 24) (v := Value.int IntKind.i64 p) rfl (by kernel_rfl) (by kernel_rfl) (by kernel_rfl) (fun _ _ _ h => h) (Or.inl ⟨by kernel_rfl, fun w => by kernel_rfl⟩) ?_
  refine wpAny_take (i := 25) (v := Value.int IntKind.i64 q) rfl (by kernel_rfl) (by kernel_rfl) (by kernel_rfl) (fun _ _ _ h => h) (Or.inl ⟨by kernel_rfl, fun w => by kernel_rfl⟩) ?_
  refine wpAny_take (i := 26) (v := Value.int IntKind.i64 k) rfl (by kernel_rfl) (by kernel_rfl) (by kernel_rfl) (fun _ _ _ h => h) (Or.inl ⟨by kernel_rfl, fun w => by kernel_rfl⟩) ?_
  refine wpAny_take (i := 27) (v := Value.int IntKind.i64 n) rfl (by kernel_rfl) (by kernel_rfl) (by kernel_rfl) (fun _ _ _ h => h) (Or.inl ⟨by kernel_rfl, fun w => by kernel_rfl⟩) ?_
  refine wpAny_take (i := 30) (v := Value.int IntKind.u64 s) rfl (by kernel_rfl) (by kernel_rfl) (by kernel_rfl) (fun _ _ _ h => h) (Or.inl ⟨by kernel_rfl, fun w => by kernel_rfl⟩) ?_
  refine wpAny_take (i := 31) (v := Value.int IntKind.i64 p) rfl (by kernel_rfl) (by kernel_rfl) (by kernel_rfl) (fun _ _ _ h => h) (Or.inl ⟨by kernel_rfl, fun w => by kernel_rfl⟩) ?_
  refine wpAny_take (i := 32) (v := Value.int IntKind.i64 q) rfl (by kernel_rfl) (by kernel_rfl) (by kernel_rfl) (fun _ _ _ h => h) (Or.inl ⟨by kernel_rfl, fun w => by kernel_rfl⟩) ?_
  refine wpAny_take (i := 33) (v := Value.int IntKind.i64 k) rfl (by kernel_rfl) (by kernel_rfl) (by kernel_rfl) (fun _ _ _ h => h) (Or.inl ⟨by kernel_rfl, fun w => by kernel_rfl⟩) ?_
  refine wpAny_take (i := 34) (v := Value.int IntKind.i64 n) rfl (by kernel_rfl) (by kernel_rfl) (by kernel_rfl) (fun _ _ _ h => h) (Or.inl ⟨by kernel_rfl, fun w => by kernel_rfl⟩) ?_
  refine wpAny_ready (rs := [28]) (by kernel_rfl) (by simp) ?_
  refine AllReady.cons rfl (fun K hK => ?_) AllReady.nil
  rw [if_pos (by kernel_rfl)]
  go_simp
  go_wp2_with (go_at_call 11; refine (x11 _).mono ?_; rintro e w2 ⟨v1, rfl, hv1, hb⟩; have c1 := conv_own hv1; replace hS := hS.on hb; clear hb)
  refine wpAny_ready (rs := [29, 35]) (by kernel_rfl) (by simp) ?_
  refine AllReady.cons rfl (fun K hK => ?_) (AllReady.cons rfl (fun K hK => ?_) AllReady.nil)
  · skip
    rw [if_pos (by kernel_rfl)]
    go_simp
    refine hK _ _ ?_
    clear hK K
    refine wpAny_ready (rs := [35]) (by kernel_rfl) (by simp) ?_
    refine AllReady.cons rfl (fun K hK => ?_) AllReady.nil
    rw [if_pos (by kernel_rfl)]
    go_simp
    go_wp2_with (go_at_call 16; refine (x16 _).mono ?_; rintro e w3 ⟨v2, rfl, hv2, hb⟩; have c2 := conv_own hv2; have c3 := conv_own (own_below hv1 hb); replace hS := hS.on hb; clear hb)
    refine wpAny_ready (rs := [36]) (by kernel_rfl) (by simp) ?_
    refine AllReady.cons rfl (fun K hK => ?_) AllReady.nil
    rw [if_pos (by kernel_rfl)]
    go_simp
    refine hK _ _ ?_
    clear hK K
    refine wpAny_take (i := 37) (v := Value.bool true) rfl (by kernel_rfl) (by kernel_rfl) (by kernel_rfl) (fun _ _ _ h => h) (Or.inl ⟨by kernel_rfl, fun w => by go_simp⟩) ?_
    refine wpAny_take (i := 38) (v := Value.bool true) rfl (by kernel_rfl) (by kernel_rfl) (by kernel_rfl) (fun _ _ _ h => h) (Or.inl ⟨by kernel_rfl, fun w => by kernel_rfl⟩) ?_
    refine wpAny_take (i := 39) (v := Value.bool true) rfl (by kernel_rfl) (by kernel_rfl) (by kernel_rfl) (fun _ _ _ h => h) (Or.inl ⟨by kernel_rfl, fun w => by kernel_rfl⟩) ?_
    refine wpAny_ready (rs := [40]) (by kernel_rfl) (by simp) ?_
    refine AllReady.cons rfl (fun K hK => ?_) AllReady.nil
    rw [if_pos (by kernel_rfl)]
    go_simp
    go_wp2_with (go_at_call 3; refine (patternRuns.walk _).mono ?_; rintro e w4 ⟨rfl, hb⟩; replace hS := hS.on hb; clear hb)
    refine wpAny_take (i := 41) (v := Value.bool true) rfl (by kernel_rfl) (by kernel_rfl) (by kernel_rfl) (fun _ _ _ h => h) (Or.inl ⟨by kernel_rfl, fun w => by kernel_rfl⟩) ?_
    refine wpAny_take (i := 42) (v := Value.bool true) rfl (by kernel_rfl) (by kernel_rfl) (by kernel_rfl) (fun _ _ _ h => h) (Or.inl ⟨by kernel_rfl, fun w => by kernel_rfl⟩) ?_
    refine wpAny_done (by kernel_rfl) ?_ _
    go_wp2
    go_ret
    exact ⟨rfl, hS⟩
  · skip
    rw [if_pos (by kernel_rfl)]
    go_simp
    go_wp2_with (go_at_call 16; refine (x16 _).mono ?_; rintro e w3 ⟨v2, rfl, hv2, hb⟩; have c2 := conv_own hv2; have c3 := conv_own (own_below hv1 hb); replace hS := hS.on hb; clear hb)
    refine wpAny_ready (rs := [29, 36]) (by kernel_rfl) (by simp) ?_
    refine AllReady.cons rfl (fun K hK => ?_) (AllReady.cons rfl (fun K hK => ?_) AllReady.nil)
    · skip
      rw [if_pos (by kernel_rfl)]
      go_simp
      refine hK _ _ ?_
      clear hK K
      refine wpAny_ready (rs := [36]) (by kernel_rfl) (by simp) ?_
      refine AllReady.cons rfl (fun K hK => ?_) AllReady.nil
      rw [if_pos (by kernel_rfl)]
      go_simp
      refine hK _ _ ?_
      clear hK K
      refine wpAny_take (i := 37) (v := Value.bool true) rfl (by kernel_rfl) (by kernel_rfl) (by kernel_rfl) (fun _ _ _ h => h) (Or.inl ⟨by kernel_rfl, fun w => by go_simp⟩) ?_
      refine wpAny_take (i := 38) (v := Value.bool true) rfl (by kernel_rfl) (by kernel_rfl) (by kernel_rfl) (fun _ _ _ h => h) (Or.inl ⟨by kernel_rfl, fun w => by kernel_rfl⟩) ?_
      refine wpAny_take (i := 39) (v := Value.bool true) rfl (by kernel_rfl) (by kernel_rfl) (by kernel_rfl) (fun _ _ _ h => h) (Or.inl ⟨by kernel_rfl, fun w => by kernel_rfl⟩) ?_
      refine wpAny_ready (rs := [40]) (by kernel_rfl) (by simp) ?_
      refine AllReady.cons rfl (fun K hK => ?_) AllReady.nil
      rw [if_pos (by kernel_rfl)]
      go_simp
      go_wp2_with (go_at_call 3; refine (patternRuns.walk _).mono ?_; rintro e w4 ⟨rfl, hb⟩; replace hS := hS.on hb; clear hb)
      refine wpAny_take (i := 41) (v := Value.bool true) rfl (by kernel_rfl) (by kernel_rfl) (by kernel_rfl) (fun _ _ _ h => h) (Or.inl ⟨by kernel_rfl, fun w => by kernel_rfl⟩) ?_
      refine wpAny_take (i := 42) (v := Value.bool true) rfl (by kernel_rfl) (by kernel_rfl) (by kernel_rfl) (fun _ _ _ h => h) (Or.inl ⟨by kernel_rfl, fun w => by kernel_rfl⟩) ?_
      refine wpAny_done (by kernel_rfl) ?_ _
      go_wp2
      go_ret
      exact ⟨rfl, hS⟩
    · skip
      rw [if_pos (by kernel_rfl)]
      go_simp
      refine hK _ _ ?_
      clear hK K
      refine wpAny_ready (rs := [29]) (by kernel_rfl) (by simp) ?_
      refine AllReady.cons rfl (fun K hK => ?_) AllReady.nil
      rw [if_pos (by kernel_rfl)]
      go_simp
      refine hK _ _ ?_
      clear hK K
      refine wpAny_take (i := 37) (v := Value.bool true) rfl (by kernel_rfl) (by kernel_rfl) (by kernel_rfl) (fun _ _ _ h => h) (Or.inl ⟨by kernel_rfl, fun w => by go_simp⟩) ?_
      refine wpAny_take (i := 38) (v := Value.bool true) rfl (by kernel_rfl) (by kernel_rfl) (by kernel_rfl) (fun _ _ _ h => h) (Or.inl ⟨by kernel_rfl, fun w => by kernel_rfl⟩) ?_
      refine wpAny_take (i := 39) (v := Value.bool true) rfl (by kernel_rfl) (by kernel_rfl) (by kernel_rfl) (fun _ _ _ h => h) (Or.inl ⟨by kernel_rfl, fun w => by kernel_rfl⟩) ?_
      refine wpAny_ready (rs := [40]) (by kernel_rfl) (by simp) ?_
      refine AllReady.cons rfl (fun K hK => ?_) AllReady.nil
      rw [if_pos (by kernel_rfl)]
      go_simp
      go_wp2_with (go_at_call 3; refine (patternRuns.walk _).mono ?_; rintro e w4 ⟨rfl, hb⟩; replace hS := hS.on hb; clear hb)
      refine wpAny_take (i := 41) (v := Value.bool true) rfl (by kernel_rfl) (by kernel_rfl) (by kernel_rfl) (fun _ _ _ h => h) (Or.inl ⟨by kernel_rfl, fun w => by kernel_rfl⟩) ?_
      refine wpAny_take (i := 42) (v := Value.bool true) rfl (by kernel_rfl) (by kernel_rfl) (by kernel_rfl) (fun _ _ _ h => h) (Or.inl ⟨by kernel_rfl, fun w => by kernel_rfl⟩) ?_
      refine wpAny_done (by kernel_rfl) ?_ _
      go_wp2
      go_ret
      exact ⟨rfl, hS⟩
theorem any (s p q k n : Int) (hq : q ≤ 9223372036854775807) (w : World) :
    Calls Try.prog 4 #[.int .u64 s, .int .i64 p, .int .i64 q, .int .i64 k, .int .i64 n] w fun e w' => e = .returned (.bool true) ∧ Since w w' := by
  by_cases h1 : 500 < n
  · by_cases h2 : n ≤ 4096
    · exact many s p q k n h1 h2 w
    · exact far s p q k n _ _ _ (by omega) w (noiseG_walk s p k) (rnoiseG_walk s p k) (byteS_walk s p q k hq) (rbyteS_walk s p q k hq) (bytesG_walk s p q k n hq) (rbytesG_walk s p q k n hq)
  · exact few_ s p q k n _ _ _ h1 w (noiseG_walk s p k) (rnoiseG_walk s p k) (byteS_walk s p q k hq) (rbyteS_walk s p q k hq) (bytesG_walk s p q k n hq) (rbytesG_walk s p q k n hq)
theorem own : ownKnob Try.prog.godebug = none := by kernel_rfl
theorem walk (a0 : Int) (a1 : Int) (a2 : Int) (a3 : Int) (a4 : Int) (w0 : (Lit.int .u64 a0).wf = true) (w1 : (Lit.int .i64 a1).wf = true) (w2 : (Lit.int .i64 a2).wf = true) (w3 : (Lit.int .i64 a3).wf = true) (w4 : (Lit.int .i64 a4).wf = true) (w : World) :
    Calls Try.prog 4 #[.int .u64 a0, .int .i64 a1, .int .i64 a2, .int .i64 a3, .int .i64 a4] w fun e w' => e = .returned (.bool true) ∧ Below w.heap.size w w' := by
  simp only [Lit.wf, Bool.and_eq_true, decide_eq_true_eq, show IntKind.i64.min = -9223372036854775808 from rfl, show IntKind.i64.max = 9223372036854775807 from rfl] at w2
  exact any _ _ _ _ _ w2.2 w
/-! ### THE ROW's STEP: WRITTEN OUT: LEAVE IT -/
set_option maxRecDepth 100000 in
theorem lifted (os : Os) (started : os.Started) (H : Type) (enc : TypeId × Value → H) :
    ReturnsInHanded {} Try.checked os 4 .any (Rows.patternTellsSpec.pre6 enc Try.prog Try.f4 Rows.patternTellsRow.domain false) (Rows.patternTellsSpec.post enc Try.prog Try.f4 false true false false) := by
  refine returnsInHanded_of_change (C := Try.checked) own started (by kernel_rfl) Try.func4
    (ChangeSpec.witness6 (enc := enc) (C := Try.checked) false ⟨#[], #[.int .u64 0, .int .i64 0, .int .i64 0, .int .i64 0, .int .i64 0], []⟩ 8 (by kernel_rfl) (by kernel_rfl) (by kernel_rfl) (by kernel_rfl)) ?_
  intro W base args ds gs before hval0 hW hcnd _
  have hval : ∀ (j : Nat) t v, Try.f4.params[j]? = some t → args[j]? = some v → Value.okWide Try.prog W .any base t v := hval0
  have hW' := hW
  obtain ⟨p, q, hA0, hV, rfl, hfz, hnd⟩ := hW
  have hA : DataW.TrodAll enc Try.prog W 0 (fun _ => true) true Try.f4.params.toList args.toList ds p := hA0
  rw [Try.params4] at hA hval
  obtain ⟨v0, vs0, d0, ds0, p0, q0, hargs, rfl, rfl, h0, r0⟩ := trodAll_cons hA
  obtain ⟨v1, vs1, d1, ds1, p1, q1, rfl, rfl, rfl, h1, r1⟩ := trodAll_cons r0
  obtain ⟨v2, vs2, d2, ds2, p2, q2, rfl, rfl, rfl, h2, r2⟩ := trodAll_cons r1
  obtain ⟨v3, vs3, d3, ds3, p3, q3, rfl, rfl, rfl, h3, r3⟩ := trodAll_cons r2
  obtain ⟨v4, vs4, d4, ds4, p4, q4, rfl, rfl, rfl, h4, r4⟩ := trodAll_cons r3
  obtain ⟨rfl, rfl, rfl⟩ := trodAll_nil r4
  obtain rfl : args = #[v0, v1, v2, v3, v4] := by cases args; simp_all
  obtain ⟨rfl, rfl⟩ := trodVars_none hV
  obtain ⟨a0, rfl, rfl, rfl, w0⟩ := open_int Try.underlying24 (hval 0 24 v0 rfl rfl) h0
  obtain ⟨a1, rfl, rfl, rfl, w1⟩ := open_int Try.underlying3 (hval 1 3 v1 rfl rfl) h1
  obtain ⟨a2, rfl, rfl, rfl, w2⟩ := open_int Try.underlying3 (hval 2 3 v2 rfl rfl) h2
  obtain ⟨a3, rfl, rfl, rfl, w3⟩ := open_int Try.underlying3 (hval 3 3 v3 rfl rfl) h3
  obtain ⟨a4, rfl, rfl, rfl, w4⟩ := open_int Try.underlying3 (hval 4 3 v4 rfl rfl) h4
  clear hA0 hval0
  simp only [List.append_nil] at hW'
  refine (walk a0 a1 a2 a3 a4 w0 w1 w2 w3 w4 W).mono fun e W' ⟨he, hg⟩ => ?_
  subst he
  exact ⟨_, rfl, _, _, _, [], _, [], hW', trodAll_mk1 (shut_bool Try.underlying4 _), (trodAll_cons_mk (shut_int Try.underlying24 w0) (trodAll_cons_mk (shut_int Try.underlying3 w1) (trodAll_cons_mk (shut_int Try.underlying3 w2) (trodAll_cons_mk (shut_int Try.underlying3 w3) (trodAll_cons_mk (shut_int Try.underlying3 w4) trodAll_mk0))))), rfl, hg.frame _, fun h => by cases h⟩

theorem over : Rows.patternTellsRow.holds Try.pinned (OpenSpec.ofChange Rows.patternTellsSpec) :=
  OpenClaim.holds_of_wide 4 Try.f4 rfl rfl rfl rfl rfl rfl rfl ⟨rfl, rfl, rfl, rfl, rfl⟩ rfl rfl rfl rfl rfl (by kernel_rfl) Try.func4 (by kernel_rfl)
    (of_decide_eq_true (by kernel_rfl)) (by unfold Func.isWrapper; first | (rw [if_pos (by decide +kernel)]; kernel_rfl) | (rw [if_neg (by decide +kernel)]; exact ⟨rfl, rfl⟩))
    (fun os started H enc _ => lifted os started H enc)

/-- ████ THE STATEMENT ████ -/
theorem proved : Rows.PatternTellsSaid :=
  over
#print axioms proved
end Go.Proofs.Ytmefkfilclkgeaa.patternTells
