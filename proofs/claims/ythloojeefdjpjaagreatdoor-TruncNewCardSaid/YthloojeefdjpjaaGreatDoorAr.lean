/- Numbers, keys, names, told. -/
import Derived.Test.YthloojeefdjpjaaGreatDoorB0

/- Numbers of digits alone: strconv.ParseUint's loop, num.part's loop. -/
namespace Go.Proofs.YthloojeefdjpjaaGreatDoor.Se
open Go Go.Proofs.YthloojeefdjpjaaGreatDoor Go.RowKit
set_option linter.unusedVariables false
set_option maxRecDepth 1000000

/-! ### Digits -/
def isDig (c : UInt8) : Bool := Nat.ble 48 c.toNat && Nat.ble c.toNat 57
def valN (l : List UInt8) : Nat := l.foldl (fun a c => a * 10 + (c.toNat - 48)) 0
/-- digits, a few of them -/
def okD (l : List UInt8) : Bool := l.all isDig && (Nat.ble 1 l.length && Nat.ble l.length 18)
theorem dig_iff {c : UInt8} : isDig c = true ↔ 48 ≤ c.toNat ∧ c.toNat ≤ 57 := by
  unfold isDig
  rw [Bool.and_eq_true]
  exact ⟨fun h => ⟨Nat.le_of_ble_eq_true h.1, Nat.le_of_ble_eq_true h.2⟩, fun h => ⟨Nat.ble_eq_true_of_le h.1, Nat.ble_eq_true_of_le h.2⟩⟩
theorem valN_snoc (l : List UInt8) (c : UInt8) : valN (l ++ [c]) = valN l * 10 + (c.toNat - 48) := by
  unfold valN
  rw [List.foldl_append]
  rfl
theorem valN_lt : ∀ (n : Nat) (l : List UInt8), l.length = n → l.all isDig = true → valN l < 10 ^ n := by
  intro n
  induction n with
  | zero =>
    intro l h _
    obtain rfl := List.eq_nil_of_length_eq_zero h
    decide
  | succ n ih =>
    intro l h ha
    have hne : l ≠ [] := by intro e; rw [e] at h; simp at h
    obtain ⟨q, c, rfl⟩ : ∃ q c, l = q ++ [c] := ⟨l.dropLast, l.getLast hne, (List.dropLast_concat_getLast hne).symm⟩
    rw [List.all_append, Bool.and_eq_true] at ha
    have h1 := ih q (by simpa using h) ha.1
    have h2 := dig_iff.1 (by simpa using ha.2)
    rw [valN_snoc, Nat.pow_succ]
    omega
theorem valN_small {l : List UInt8} (h : l.all isDig = true) (hl : l.length ≤ 18) : valN l < 1000000000000000000 := by
  have h1 := valN_lt l.length l rfl h
  have h2 : 10 ^ l.length ≤ 10 ^ 18 := Nat.pow_le_pow_right (by decide) hl
  have : (10 : Nat) ^ 18 = 1000000000000000000 := by decide
  omega
theorem valN_take {l : List UInt8} {i : Nat} (hi : i < l.length) : valN (l.take (i + 1)) = valN (l.take i) * 10 + (l[i].toNat - 48) := by
  rw [List.take_succ_eq_append_getElem hi, valN_snoc]
theorem all_take {l : List UInt8} (h : l.all isDig = true) (i : Nat) : (l.take i).all isDig = true :=
  List.all_eq_true.2 fun x hx => List.all_eq_true.1 h x (List.mem_of_mem_take hx)
theorem dig_at {l : List UInt8} (h : l.all isDig = true) {i : Nat} (hi : i < l.length) : 48 ≤ l[i].toNat ∧ l[i].toNat ≤ 57 :=
  dig_iff.1 (List.all_eq_true.1 h _ (List.getElem_mem hi))

/-! ### ParseUint's loop -/
abbrev puF : FuncId := 364
def puLive : List Tmp := [101, 100, 99, 8, 1, 13, 10, 11, 12]
def puTs (e : Ex) : List Tmp := match e with | .normal => puLive | .ret => [6] | _ => [13, 12]
def puWs : List Tmp := [102, 103, 104, 15, 16, 107, 108, 109, 110, 111, 106, 12, 113, 114, 115, 116, 117, 118, 112, 119, 120, 122, 123, 124, 125, 126, 127, 128, 129, 121, 130, 131, 132, 133, 105, 6, 7, 134, 135, 136, 137, 138, 139, 140, 141, 142, 143, 144, 145, 146, 147, 13, 148, 149, 150, 151, 17, 152, 153, 154, 155, 156, 157, 158, 159, 160, 161, 162, 163, 101]
def puVa (s : List UInt8) (i v : Nat) : List SV := [.int .i64 false (.ofNat i), .int .i64 false (.ofNat s.length), .nsl 0 1 false 0 s.length 0, .bool true false, .int .i64 true 10, .int .u64 false (.ofNat v), .int .u64 true 1844674407370955162, .int .u64 true 9223372036854775807, .bool true false]
def puBl (s : List UInt8) : List SB := [.row 1 s.length (byE s) 5]
noncomputable def puT (s : List UInt8) (i v : Nat) : RT Lf := roundT env TB puF 32762 (loopBody puF 32762) 172 puLive puTs 20 (puVa s i v) (puBl s)
def puB (s : List UInt8) (i : Nat) : Nat := (s.getD (0 + i) 0).toNat
def puD (s : List UInt8) (i : Nat) : Int := IntKind.u8.wrap (Int.ofNat (puB s i) - Int.ofNat 48)
def puM (v : Nat) : Int := IntKind.u64.wrap (Int.ofNat v * 10)
def puN (s : List UInt8) (i v : Nat) : Int := IntKind.u64.wrap (puM v + IntKind.u64.wrap (puD s i))
theorem pu_stop (s : List UInt8) (i v : Nat) : (puT s i v).follow [false] = some ([(decide (Int.ofNat i < Int.ofNat s.length), false)], ⟨.exit 3, [.int .u64 false (.ofNat v), .bool true false], puBl s, [some (0, true)]⟩) := by kernel_rfl
theorem pu_next (s : List UInt8) (i v : Nat) : (puT s i v).follow [true, true, true, false, true, true, false, false, false, false] =
    some ([(decide (Int.ofNat i < Int.ofNat s.length), true), (true, true), (Nat.blt i s.length, true), (Int.ofNat (puB s i) == Int.ofNat 95, false), (decide (Int.ofNat 48 ≤ Int.ofNat (puB s i)), true), (decide (Int.ofNat (puB s i) ≤ Int.ofNat 57), true),
        (decide (puD s i ≥ Int.ofNat 10), false), (decide (Int.ofNat v ≥ 1844674407370955162), false), (decide (puN s i v < puM v), false), (decide (puN s i v > 9223372036854775807), false)],
      ⟨.normal, [.int .i64 false (IntKind.i64.wrap (Int.ofNat i + Int.ofNat 1)), .int .i64 false (.ofNat s.length), .nsl 0 1 false 0 s.length 0, .bool true false, .int .i64 true 10, .int .u64 false (puN s i v), .int .u64 true 1844674407370955162, .int .u64 true 9223372036854775807, .bool true false], puBl s, [some (0, true)]⟩) := by kernel_rfl
theorem puBl_refl {K : Nat} {s : List UInt8} : WkBs K (puBl s) (puBl s) := .cons (.row byE_refl) (fun _ => by simp) .nil
theorem u64_in {n : Nat} (h : n < 18446744073709551616) : IntKind.u64.wrap (Int.ofNat n) = Int.ofNat n := by
  show Int.ofNat n % 18446744073709551616 = Int.ofNat n
  exact Int.emod_eq_of_lt (by simp) (by simp only [Int.ofNat_eq_natCast]; omega)
theorem pu_vals {s : List UInt8} (hd : s.all isDig = true) {i v : Nat} (hi : i < s.length) (hv : v < 1000000000000000000) :
    puB s i = s[i].toNat ∧ puD s i = Int.ofNat (s[i].toNat - 48) ∧ puM v = Int.ofNat (v * 10) ∧ puN s i v = Int.ofNat (v * 10 + (s[i].toNat - 48)) := by
  have hb : puB s i = s[i].toNat := by unfold puB; rw [Nat.zero_add]; simp [hi]
  obtain ⟨h1, h2⟩ := dig_at hd hi
  have hD : puD s i = Int.ofNat (s[i].toNat - 48) := by
    unfold puD
    rw [hb]
    have : (Int.ofNat s[i].toNat - Int.ofNat 48) = Int.ofNat (s[i].toNat - 48) := by simp only [Int.ofNat_eq_natCast]; omega
    rw [this]
    show Int.ofNat (s[i].toNat - 48) % 256 = _
    exact Int.emod_eq_of_lt (by simp) (by simp only [Int.ofNat_eq_natCast]; omega)
  have hM : puM v = Int.ofNat (v * 10) := by
    unfold puM
    have : Int.ofNat v * 10 = Int.ofNat (v * 10) := by simp
    rw [this]
    exact u64_in (by omega)
  refine ⟨hb, hD, hM, ?_⟩
  unfold puN
  rw [hD, hM, u64_in (n := s[i].toNat - 48) (by omega)]
  have : Int.ofNat (v * 10) + Int.ofNat (s[i].toNat - 48) = Int.ofNat (v * 10 + (s[i].toNat - 48)) := by simp
  rw [this]
  exact u64_in (by omega)
noncomputable def puR (K : Nat) (s : List UInt8) (hd : s.all isDig = true) (hl : s.length ≤ 18) : Rounds env TB puF 32762 (loopBody puF 32762) 172 puLive puTs 20 K { i : Nat // i ≤ s.length } where
  va i := puVa s i.1 (valN (s.take i.1))
  bl i := puBl s
  μ i := s.length - i.1
  out i := ⟨.exit 3, [.int .u64 false (.ofNat (valN s)), .bool true false], puBl s, [some (0, true)]⟩
  tsn := rfl
  small i := by show 1 < 4000; omega
  step i := by
    obtain ⟨i, hi⟩ := i
    by_cases h : i < s.length
    · have hv : valN (s.take i) < 100000000000000000 := by
        have h1 := valN_lt i (s.take i) (by simp; omega) (all_take hd i)
        have h2 : 10 ^ i ≤ 10 ^ 17 := Nat.pow_le_pow_right (by decide) (by omega)
        have : (10 : Nat) ^ 17 = 100000000000000000 := by decide
        omega
      obtain ⟨e1, e2, e3, e4⟩ := pu_vals hd h (v := valN (s.take i)) (by omega)
      obtain ⟨d1, d2⟩ := dig_at hd h
      refine ⟨_, way_sel (pu_next s i (valN (s.take i))) ?_, .inl ⟨rfl, ⟨i + 1, h⟩, ?_, puBl_refl, by show s.length - (i + 1) < s.length - i; omega, rfl, rfl, rfl, rfl⟩⟩
      · have hb : Nat.blt i s.length = true := by simpa [Nat.blt_eq] using h
        have t3 : (Int.ofNat (puB s i) == Int.ofNat 95) = false := by
          rw [e1, beq_eq_false_iff_ne]
          intro q
          simp only [Int.ofNat_eq_natCast] at q
          omega
        have t4 : decide (Int.ofNat 48 ≤ Int.ofNat (puB s i)) = true := by rw [e1]; simp only [Int.ofNat_eq_natCast, decide_eq_true_eq]; omega
        have t5 : decide (Int.ofNat (puB s i) ≤ Int.ofNat 57) = true := by rw [e1]; simp only [Int.ofNat_eq_natCast, decide_eq_true_eq]; omega
        have t6 : decide (puD s i ≥ Int.ofNat 10) = false := by rw [e2]; simp only [Int.ofNat_eq_natCast, decide_eq_false_iff_not]; omega
        have t7 : decide (Int.ofNat (valN (s.take i)) ≥ 1844674407370955162) = false := by simp only [Int.ofNat_eq_natCast, decide_eq_false_iff_not]; omega
        have t8 : decide (puN s i (valN (s.take i)) < puM (valN (s.take i))) = false := by rw [e3, e4]; simp only [Int.ofNat_eq_natCast, decide_eq_false_iff_not]; omega
        have t9 : decide (puN s i (valN (s.take i)) > 9223372036854775807) = false := by rw [e4]; simp only [Int.ofNat_eq_natCast, decide_eq_false_iff_not]; omega
        simp only [List.all_cons, List.all_nil, lt_nat, hb, t3, t4, t5, t6, t7, t8, t9]
        rfl
      · refine .cons (.int_eq (wrap_succ (by omega))) (.cons Wk.int (.cons (Wk.nsl (Nat.le_refl _)) (.cons Wk.bool (.cons Wk.int (.cons (.int_eq ?_) (.cons Wk.int (.cons Wk.int (.cons Wk.bool .nil))))))))
        rw [e4, valN_take h]
    · have e : i = s.length := by omega
      refine ⟨_, way_sel (pu_stop s i (valN (s.take i))) ?_, .inr ⟨by simp, rfl, .cons (.int_eq ?_) (.cons Wk.bool .nil), puBl_refl, rfl⟩⟩
      · have hb : Nat.blt i s.length = false := by
          rw [Bool.eq_false_iff]; intro q; exact h (by simpa [Nat.blt_eq] using q)
        simp only [List.all_cons, List.all_nil, lt_nat, hb]
        rfl
      · subst e
        rw [List.take_length]
def puG (k : Nat) (vs : List SV) (bs : List SB) : RT (Left (Ex × List (Tmp × SV))) :=
  match vs, bs with
  | [.int .i64 _ (.ofNat 0), .int .i64 _ (.ofNat n), .nsl 0 1 _ 0 m 0, .bool _ false, .int .i64 _ 10, .int .u64 _ (.ofNat 0), .int .u64 _ 1844674407370955162, .int .u64 _ 9223372036854775807, .bool _ false], [.row 1 q e t] =>
    .br (Nat.beq t 5 && (Nat.beq n m && (Nat.beq n q && (wfR byOf n e && ((lsR byOf 0 n e).all isDig && Nat.ble n 18)))))
      (.ret ⟨(.exit 3, [(13, .int .u64 false (.ofNat (valN (lsR byOf 0 n e)))), (12, .bool true false)]), puBl (lsR byOf 0 n e), [some (0, true)]⟩) .bad
  | _, _ => .bad
theorem pu_loop {F0 : Fz} (hF0 : ∀ b cs t, F0 b = some (cs, t) → t = 0) : SubLp F0 env spE (loopBody puF 32762) 172 400 puLive puWs puG :=
  ⟨ws_ok (by kernel_rfl), fun F ι k h vs vs' bs b L h0 H hbs hbn hn hv hl hg => by
    unfold puG at hg
    split at hg
    · rename_i c1 c2 n c3 m c4 c5 c6 c7 c8 c9 q e t
      obtain ⟨hb, hg⟩ := br_bad hg
      simp only [RT.sel, Option.some.injEq] at hg
      subst hg
      simp only [Bool.and_eq_true] at hb
      obtain ⟨b0, b1, b2, b3, b4, b5⟩ := hb
      have := Nat.eq_of_beq_eq_true b0
      subst this
      have := Nat.eq_of_beq_eq_true b1
      subst this
      have := Nat.eq_of_beq_eq_true b2
      subst this
      have b5 := Nat.le_of_ble_eq_true b5
      have hlen : (lsR byOf 0 n e).length = n := lsR_len
      refine lp_of TB_ok hF0 (in_code (n := 172) (by kernel_rfl) (by kernel_rfl)) (by decide) (by decide) (puR (k + 1) (lsR byOf 0 n e) b4 (by rw [hlen]; exact b5)) ⟨0, Nat.zero_le _⟩ ?_ hbs ?_ ?_ rfl h0 H hbn hv hl
      · show 20 * ((lsR byOf 0 n e).length - 0 + 1) ≤ _
        rw [hlen]; omega
      · show WkL 0 _ (puVa (lsR byOf 0 n e) 0 0)
        unfold puVa
        rw [hlen]
        exact .cons Wk.int (.cons Wk.int (.cons (Wk.nsl (Nat.le_refl _)) (.cons Wk.bool (.cons Wk.int (.cons Wk.int (.cons Wk.int (.cons Wk.int (.cons Wk.bool .nil))))))))
      · show WkBs 0 _ (puBl (lsR byOf 0 n e))
        unfold puBl
        rw [hlen]
        exact .cons (.row (wfR_wk (row := byRow) (fun r x => by_wk) b3)) (fun _ => by simp) .nil
    · cases hg⟩
noncomputable def TPu : Told := TB.withL puF 32762 (subLoop 400 puLive puWs puG)
theorem TPu_ok {F0 : Fz} (hF0 : ∀ b cs t, F0 b = some (cs, t) → t = 0) : ToldOk F0 env spE TPu := lp_told (n := 172) TB_ok (by kernel_rfl) (by kernel_rfl) (pu_loop hF0)

/-! ### part's loop -/
abbrev paF : FuncId := 275
def paLive : List Tmp := [4, 0]
def paTs (e : Ex) : List Tmp := match e with | .normal => paLive | .ret => [2] | _ => [4]
def paWs : List Tmp := [9, 10, 11, 12, 13, 14, 15, 16, 17, 18, 19, 20, 21, 22, 23, 24, 25, 26, 4]
noncomputable def paT (s : List UInt8) (i : Nat) : RT Lf := roundT env TB paF 28 (loopBody paF 28) 53 paLive paTs 20 [.int .i64 false (.ofNat i), .str false s] []
theorem pa_stop (s : List UInt8) (i : Nat) : (paT s i).follow [false] = some ([(decide (Int.ofNat i < Int.ofNat s.length), false)], ⟨.exit 0, [.int .i64 false (.ofNat i)], [], []⟩) := by kernel_rfl
theorem pa_next (s : List UInt8) (i : Nat) : (paT s i).follow [true, true, true, true, true, true, true] =
    some ([(decide (Int.ofNat i < Int.ofNat s.length), true), (true, true), (Nat.blt i s.length, true), (decide (Int.ofNat (s.getD i 0).toNat ≥ Int.ofNat 48), true), (true, true), (Nat.blt i s.length, true), (decide (Int.ofNat (s.getD i 0).toNat ≤ Int.ofNat 57), true)],
      ⟨.normal, [.int .i64 false (IntKind.i64.wrap (Int.ofNat i + Int.ofNat 1)), .str false s], [], []⟩) := by kernel_rfl
noncomputable def paR (K : Nat) (s : List UInt8) (hd : s.all isDig = true) (hl : s.length ≤ 18) : Rounds env TB paF 28 (loopBody paF 28) 53 paLive paTs 20 K { i : Nat // i ≤ s.length } where
  va i := [.int .i64 false (.ofNat i.1), .str false s]
  bl i := []
  μ i := s.length - i.1
  out i := ⟨.exit 0, [.int .i64 false (.ofNat s.length)], [], []⟩
  tsn := rfl
  small i := by show 0 < 4000; omega
  step i := by
    obtain ⟨i, hi⟩ := i
    by_cases h : i < s.length
    · obtain ⟨d1, d2⟩ := dig_at hd h
      refine ⟨_, way_sel (pa_next s i) ?_, .inl ⟨rfl, ⟨i + 1, h⟩, .cons (.int_eq (wrap_succ (by omega))) (.cons Wk.str .nil), .nil, by show s.length - (i + 1) < s.length - i; omega, rfl, rfl, rfl, rfl⟩⟩
      have hb : Nat.blt i s.length = true := by simpa [Nat.blt_eq] using h
      have eg : s.getD i 0 = s[i] := by simp [h]
      have t4 : decide (Int.ofNat s[i].toNat ≥ Int.ofNat 48) = true := by simp only [Int.ofNat_eq_natCast, decide_eq_true_eq]; omega
      have t5 : decide (Int.ofNat s[i].toNat ≤ Int.ofNat 57) = true := by simp only [Int.ofNat_eq_natCast, decide_eq_true_eq]; omega
      simp only [List.all_cons, List.all_nil, lt_nat, hb, eg, t4, t5]
      rfl
    · have e : i = s.length := by omega
      refine ⟨_, way_sel (pa_stop s i) ?_, .inr ⟨by simp, rfl, .cons (.int_eq (by rw [e])) .nil, .nil, rfl⟩⟩
      have hb : Nat.blt i s.length = false := by
        rw [Bool.eq_false_iff]; intro q; exact h (by simpa [Nat.blt_eq] using q)
      simp only [List.all_cons, List.all_nil, lt_nat, hb]
      rfl
def paG (k : Nat) (vs : List SV) (bs : List SB) : RT (Left (Ex × List (Tmp × SV))) :=
  match vs, bs with
  | [.int .i64 _ (.ofNat 0), .str _ s], [] => .br (s.all isDig && Nat.ble s.length 18) (.ret ⟨(.exit 0, [(4, .int .i64 false (.ofNat s.length))]), [], []⟩) .bad
  | _, _ => .bad
theorem pa_loop {F0 : Fz} (hF0 : ∀ b cs t, F0 b = some (cs, t) → t = 0) : SubLp F0 env spE (loopBody paF 28) 53 400 paLive paWs paG :=
  ⟨ws_ok (by kernel_rfl), fun F ι k h vs vs' bs b L h0 H hbs hbn hn hv hl hg => by
    unfold paG at hg
    split at hg
    · rename_i c1 c2 s
      obtain ⟨hb, hg⟩ := br_bad hg
      simp only [RT.sel, Option.some.injEq] at hg
      subst hg
      simp only [Bool.and_eq_true] at hb
      obtain ⟨b1, b2⟩ := hb
      have b2 := Nat.le_of_ble_eq_true b2
      refine lp_of TB_ok hF0 (in_code (n := 53) (by kernel_rfl) (by kernel_rfl)) (by decide) (by decide) (paR (k + 1) s b1 b2) ⟨0, Nat.zero_le _⟩ ?_ hbs (.cons Wk.int (.cons Wk.str .nil)) .nil rfl h0 H hbn hv hl
      show 20 * (s.length - 0 + 1) ≤ _
      omega
    · cases hg⟩
end Go.Proofs.YthloojeefdjpjaaGreatDoor.Se

/- num.Get of digits alone. -/
namespace Go.Proofs.YthloojeefdjpjaaGreatDoor.Se
open Go Go.Proofs.YthloojeefdjpjaaGreatDoor Go.RowKit
set_option linter.unusedVariables false
set_option maxRecDepth 1000000
def gPu (args : List SV) : RT SV :=
  match args with
  | [.str _ s, .int .i64 _ 10, .int .i64 _ 63] => .br (okD s) (.ret (.tup [.int .u64 false (.ofNat (valN s)), .raw .nilIface])) .bad
  | _ => .bad
noncomputable def puFT (s : List UInt8) : RT Lf := fnT env TPu puF 1000 [.str false s, .int .i64 true 10, .int .i64 true 63] []
theorem puF_way (s : List UInt8) : (puFT s).follow [false, false, true] =
    some ([(s == [], false), (Nat.beq s.length 0, false), (Nat.beq 5 5 && (Nat.beq s.length s.length && (Nat.beq s.length s.length && (wfR byOf s.length (byE s) && ((lsR byOf 0 s.length (byE s)).all isDig && Nat.ble s.length 18)))), true)],
      ⟨.ret, [.tup [.int .u64 false (.ofNat (valN (lsR byOf 0 s.length (byE s)))), .raw .nilIface]], [], []⟩) := by kernel_rfl
theorem okD_iff {s : List UInt8} : okD s = true ↔ s.all isDig = true ∧ 1 ≤ s.length ∧ s.length ≤ 18 := by
  unfold okD
  rw [Bool.and_eq_true, Bool.and_eq_true]
  exact ⟨fun h => ⟨h.1, Nat.le_of_ble_eq_true h.2.1, Nat.le_of_ble_eq_true h.2.2⟩, fun h => ⟨h.1, Nat.ble_eq_true_of_le h.2.1, Nat.ble_eq_true_of_le h.2.2⟩⟩
theorem pu_told {F0 : Fz} (hF0 : ∀ b cs t, F0 b = some (cs, t) → t = 0) : PlainFn F0 env spE puF 1000 gPu := fun F k h args args' v h0 H hl hg hp => by
  unfold gPu at hg
  split at hg
  · rename_i c1 s c2 c3
    obtain ⟨hb, hg⟩ := br_bad hg
    simp only [RT.sel, Option.some.injEq] at hg
    subst hg
    obtain ⟨b1, b2, b3⟩ := okD_iff.1 hb
    refine plain_of_tree (k := k) (TPu_ok hF0) hF0 rfl (way_sel (puF_way s) ?_) (.cons Wk.str (.cons Wk.int (.cons Wk.int .nil))) ?_ hp h0 H hl
    · have e1 : (s == []) = false := by cases s with | nil => simp at b2 | cons a l => rfl
      have e2 : Nat.beq s.length 0 = false := by
        rw [Bool.eq_false_iff]; intro q; have := Nat.eq_of_beq_eq_true q; omega
      have e3 : Nat.ble s.length 18 = true := Nat.ble_eq_true_of_le b3
      simp only [List.all_cons, List.all_nil, e1, e2, e3, wf_by, ls_by, b1]
      simp
    · refine .cons (.tup (.cons (.int_eq ?_) (.cons Wk.raw .nil))) .nil
      rw [ls_by]
  · cases hg
noncomputable def TNu : Told := (TB.withF puF (toldCall 1000 gPu)).withL paF 28 (subLoop 400 paLive paWs paG)
theorem TNu_ok {F0 : Fz} (hF0 : ∀ b cs t, F0 b = some (cs, t) → t = 0) : ToldOk F0 env spE TNu := lp_told (n := 53) (fn_told TB_ok (pu_told hF0)) (by kernel_rfl) (by kernel_rfl) (pa_loop hF0)
abbrev getF : FuncId := 172
noncomputable def getFT (s : List UInt8) : RT Lf := fnT env TNu getF 10000 [.str false s] []
def mS (s : List UInt8) : Int := mnI (IntKind.i64.wrap (Int.ofNat (Lib.countByte s 120) + Int.ofNat 1)) (IntKind.i64.wrap (Int.ofNat s.length + Int.ofNat 1))
def w0 (s : List UInt8) : Int := IntKind.i64.wrap (Int.ofNat (valN (List.take s.length s)))
def w1 (s : List UInt8) : Int := IntKind.i64.wrap (Int.ofNat 1 * w0 s)
def w2 (s : List UInt8) : Int := IntKind.i64.wrap (w1 s * Int.ofNat 1)
def getH (s : List UInt8) : List (Bool × Bool) :=
  [(decide (0 ≤ mS s), true), (decide (0 ≤ mS s), true), (Nat.ble (mS s).toNat (mS s).toNat && Nat.ble ((mS s).toNat * 16) 140737488355328 && Nat.ble (mS s).toNat 9223372036854775807, true), (decide (Int.ofNat 0 < IntKind.i64.wrap (mS s - Int.ofNat 1)), false), (Nat.blt 0 (mS s).toNat, true), (Nat.ble 1 (mS s).toNat, true), (true, true), (true, true),
    (s.all isDig && Nat.ble s.length 18, true), (true, true), (Nat.ble s.length s.length, true), (decide (Int.ofNat (List.take s.length s).length > Int.ofNat 19), false), (okD (List.take s.length s), true), (decide (w0 s ≥ Int.ofNat 0), true), (!decide (w0 s ≤ Int.ofNat 4611686018427387904), false),
    (true, true), (Nat.ble s.length s.length, true), (List.take (s.length - s.length) (List.drop s.length s) == [], true), (List.take (s.length - s.length) (List.drop s.length s) == [], true), (decide (w0 s ≥ Int.ofNat 0), true), (!decide (w0 s ≤ Int.ofNat 4611686018427387904), false)]
theorem get_zero (s : List UInt8) : (getFT s).follow [true, true, true, false, true, true, true, true, true, true, true, false, true, true, false, true, true, true, true, true, false, true, false] =
    some (getH s ++ [(w0 s == Int.ofNat 0, true), (false, false)], ⟨.ret, [.tup [.int .i64 true 0, .bool true true]], [], []⟩) := by kernel_rfl
theorem get_some (s : List UInt8) : (getFT s).follow [true, true, true, false, true, true, true, true, true, true, true, false, true, true, false, true, true, true, true, true, false, false, false, true, false, false, true, false, false, false] =
    some (getH s ++ [(w0 s == Int.ofNat 0, false), (decide (w0 s > Int.ofNat 4611686018427387904), false), (!decide (w1 s = 0), true), (decide (Int.ofNat 1 > IntKind.i64.wrap ((Int.ofNat 4611686018427387904).tdiv (w1 s))), false), (false, false),
        (decide (w2 s ≥ Int.ofNat 0), true), (!decide (w2 s ≤ Int.ofNat 4611686018427387904), false), (w2 s == Int.ofNat 0, false), (decide (w2 s > Int.ofNat 4611686018427387904), false)],
      ⟨.ret, [.tup [.int .i64 false (IntKind.i64.wrap (Int.ofNat 1 * w2 s)), .bool true true]], [], []⟩) := by kernel_rfl
theorem mS_one {s : List UInt8} (hd : s.all isDig = true) (hl : s.length ≤ 18) : mS s = 1 := by
  have hc : Lib.countByte s 120 = 0 := by
    unfold Lib.countByte
    rw [List.count_eq_zero]
    intro hx
    have := dig_iff.1 (List.all_eq_true.1 hd _ hx)
    simp at this
  unfold mS
  rw [hc]
  have e1 : IntKind.i64.wrap (Int.ofNat 0 + Int.ofNat 1) = 1 := by decide
  have e2 : IntKind.i64.wrap (Int.ofNat s.length + Int.ofNat 1) = Int.ofNat (s.length + 1) := wrap_succ (by omega)
  rw [e1, e2]
  unfold mnI
  simp only [Int.ofNat_eq_natCast]
  split <;> omega
theorem w_vals {s : List UInt8} (hd : s.all isDig = true) (hl : s.length ≤ 18) : w0 s = Int.ofNat (valN s) ∧ w1 s = Int.ofNat (valN s) ∧ w2 s = Int.ofNat (valN s) ∧ IntKind.i64.wrap (Int.ofNat 1 * w2 s) = Int.ofNat (valN s) := by
  have hv := valN_small hd hl
  have e : IntKind.i64.wrap (Int.ofNat (valN s)) = Int.ofNat (valN s) := IntWalk.i64_in _ (by simp only [Int.ofNat_eq_natCast]; omega)
  have e0 : w0 s = Int.ofNat (valN s) := by unfold w0; rw [List.take_length]; exact e
  have e1 : w1 s = Int.ofNat (valN s) := by unfold w1; rw [e0, show Int.ofNat 1 * Int.ofNat (valN s) = Int.ofNat (valN s) by simp]; exact e
  have e2 : w2 s = Int.ofNat (valN s) := by unfold w2; rw [e1, show Int.ofNat (valN s) * Int.ofNat 1 = Int.ofNat (valN s) by simp]; exact e
  exact ⟨e0, e1, e2, by rw [e2, show Int.ofNat 1 * Int.ofNat (valN s) = Int.ofNat (valN s) by simp]; exact e⟩
theorem getH_ok {s : List UInt8} (h : okD s = true) : ((getH s).all fun p => p.1 == p.2) = true := by
  obtain ⟨hd, h1, hl⟩ := okD_iff.1 h
  obtain ⟨e0, _, _, _⟩ := w_vals hd hl
  have hv := valN_small hd hl
  have a1 : decide (w0 s ≥ Int.ofNat 0) = true := by rw [e0]; simp
  have a2 : (!decide (w0 s ≤ Int.ofNat 4611686018427387904)) = false := by rw [e0]; simp only [Int.ofNat_eq_natCast, Bool.not_eq_false', decide_eq_true_eq]; omega
  have a3 : (List.take (s.length - s.length) (List.drop s.length s) == []) = true := by simp
  have a4 : decide (Int.ofNat (List.take s.length s).length > Int.ofNat 19) = false := by rw [List.take_length]; simp only [Int.ofNat_eq_natCast, decide_eq_false_iff_not]; omega
  have a5 : okD (List.take s.length s) = true := by rw [List.take_length]; exact h
  have a6 : Nat.ble s.length 18 = true := Nat.ble_eq_true_of_le hl
  have a7 : Nat.ble s.length s.length = true := Nat.ble_eq_true_of_le (Nat.le_refl _)
  unfold getH
  rw [mS_one hd hl]
  simp only [List.all_cons, List.all_nil, a1, a2, a3, a4, a5, a6, a7, hd]
  decide
def gGet (args : List SV) : RT SV :=
  match args with
  | [.str _ s] => .br (okD s) (.ret (.tup [.int .i64 false (.ofNat (valN s)), .bool true true])) .bad
  | _ => .bad
theorem get_told {F0 : Fz} (hF0 : ∀ b cs t, F0 b = some (cs, t) → t = 0) : PlainFn F0 env spE getF 10000 gGet := fun F k h args args' v h0 H hl hg hp => by
  unfold gGet at hg
  split at hg
  · rename_i c1 s
    obtain ⟨hb, hg⟩ := br_bad hg
    simp only [RT.sel, Option.some.injEq] at hg
    subst hg
    obtain ⟨hd, h1, hln⟩ := okD_iff.1 hb
    obtain ⟨e0, e1, e2, e3⟩ := w_vals hd hln
    have hv := valN_small hd hln
    by_cases hz : valN s = 0
    · refine plain_of_tree (k := k) (TNu_ok hF0) hF0 rfl (way_sel (get_zero s) ?_) (.cons Wk.str .nil) (.cons (.tup (.cons (.int_eq (by rw [hz]; rfl)) (.cons Wk.bool .nil))) .nil) hp h0 H hl
      rw [List.all_append, getH_ok hb, e0, hz]
      decide
    · refine plain_of_tree (k := k) (TNu_ok hF0) hF0 rfl (way_sel (get_some s) ?_) (.cons Wk.str .nil) (.cons (.tup (.cons (.int_eq e3) (.cons Wk.bool .nil))) .nil) hp h0 H hl
      have b1 : (Int.ofNat (valN s) == Int.ofNat 0) = false := by rw [beq_eq_false_iff_ne]; intro q; simp only [Int.ofNat_eq_natCast] at q; omega
      have b2 : decide (Int.ofNat (valN s) > Int.ofNat 4611686018427387904) = false := by simp only [Int.ofNat_eq_natCast, decide_eq_false_iff_not]; omega
      have b3 : (!decide (Int.ofNat (valN s) = 0)) = true := by simp only [Int.ofNat_eq_natCast, Bool.not_eq_true', decide_eq_false_iff_not]; omega
      have b4 : decide (Int.ofNat 1 > IntKind.i64.wrap ((Int.ofNat 4611686018427387904).tdiv (Int.ofNat (valN s)))) = false := by
        have q : (Int.ofNat 4611686018427387904).tdiv (Int.ofNat (valN s)) = Int.ofNat (4611686018427387904 / valN s) := rfl
        have q1 : 1 ≤ 4611686018427387904 / valN s := by
          rw [Nat.le_div_iff_mul_le (by omega)]; omega
        have q2 : 4611686018427387904 / valN s ≤ 4611686018427387904 := Nat.div_le_self _ _
        have q3 : IntKind.i64.wrap (Int.ofNat (4611686018427387904 / valN s)) = Int.ofNat (4611686018427387904 / valN s) := IntWalk.i64_in _ (by simp only [Int.ofNat_eq_natCast]; omega)
        rw [q, q3]
        simp only [Int.ofNat_eq_natCast, decide_eq_false_iff_not]
        omega
      have b5 : decide (Int.ofNat (valN s) ≥ Int.ofNat 0) = true := by simp
      have b6 : (!decide (Int.ofNat (valN s) ≤ Int.ofNat 4611686018427387904)) = false := by simp only [Int.ofNat_eq_natCast, Bool.not_eq_false', decide_eq_true_eq]; omega
      rw [List.all_append, getH_ok hb, e0, e1, e2]
      simp only [List.all_cons, List.all_nil, b1, b2, b3, b4, b5, b6]
      rfl
  · cases hg
end Go.Proofs.YthloojeefdjpjaaGreatDoor.Se

/- arg.Find, and names by small numbers, told. -/
namespace Go.Proofs.YthloojeefdjpjaaGreatDoor.Se
open Go Go.Proofs.YthloojeefdjpjaaGreatDoor Go.RowKit
set_option linter.unusedVariables false
set_option maxRecDepth 1000000
def kvOf (r : List SV) : Option (List UInt8 × List UInt8) := match r with | [.str _ k, .str _ v] => some (k, v) | _ => none
def kv0 : List UInt8 × List UInt8 := ([], [])
/-- the last value of a key -/
def findB (key : List UInt8) : List (List UInt8 × List UInt8) → Option (List UInt8)
  | [] => none
  | (k, v) :: l => match findB key l with
    | some x => some x
    | none => bif k == key then some v else none
def optS : Option (List UInt8) → List UInt8
  | some x => x
  | none => []
def optB : Option (List UInt8) → Bool
  | some _ => true
  | none => false
def someOr (nl : Option Bool) (n : Nat) : Bool := match nl with | some _ => true | none => Nat.blt 0 n
def gFind (args : List SV) : RT SV :=
  match args with
  | [x, .str _ key] => (match slR 2 x with
    | some (n, nl, e) => .br (Nat.ble n 1000000 && (wfR kvOf n e && someOr nl n)) (.ret (.tup [.str false (optS (findB key (lsR kvOf kv0 n e))), .bool false (optB (findB key (lsR kvOf kv0 n e)))])) .bad
    | none => .bad)
  | _ => .bad
def kvB (p : List UInt8 × List UInt8) : ByteArray × ByteArray := (⟨⟨p.1⟩⟩, ⟨⟨p.2⟩⟩)
theorem findR_app (key : ByteArray) : ∀ (l m : List (ByteArray × ByteArray)), findR key (l ++ m) = match findR key l with | some x => some x | none => findR key m
  | [], m => rfl
  | (k, v) :: l, m => by
    simp only [List.cons_append, findR]
    cases h : (k.data.toList == key.data.toList) with
    | true => rfl
    | false => simp only [cond_false]; exact findR_app key l m
theorem found_find (key : List UInt8) : ∀ l : List (List UInt8 × List UInt8), findR ⟨⟨key⟩⟩ (l.map kvB).reverse = (findB key l).map fun x => ⟨⟨x⟩⟩
  | [] => rfl
  | (k, v) :: l => by
    rw [List.map_cons, List.reverse_cons, findR_app, found_find key l]
    have e : findB key ((k, v) :: l) = match findB key l with | some x => some x | none => bif k == key then some v else none := rfl
    rw [e]
    cases h : findB key l with
    | some x => rfl
    | none =>
      simp only [Option.map_none, kvB, findR]
      cases h2 : (k == key) with
      | true => rfl
      | false => rfl
theorem kvs_of : ∀ {cs : List Value} {l : List (List UInt8 × List UInt8)}, cs.length = l.length * 2 → (∀ i, (h : i < l.length) → cs[i * 2]? = some (.string ⟨⟨l[i].1⟩⟩) ∧ cs[i * 2 + 1]? = some (.string ⟨⟨l[i].2⟩⟩)) → kvs_ cs = some (l.map kvB)
  | [], [], _, _ => rfl
  | [], p :: l, h, _ => by simp at h
  | [a], l, h, _ => by
    simp only [List.length_cons, List.length_nil] at h
    omega
  | a :: b :: cs, [], h, _ => by simp at h
  | a :: b :: cs, p :: l, h, hq => by
    have h0 := hq 0 (by simp)
    simp only [Nat.zero_mul, Nat.zero_add, List.getElem?_cons_zero, List.getElem?_cons_succ, Option.some.injEq, List.getElem_cons_zero] at h0
    obtain ⟨rfl, rfl⟩ := h0
    have ih := kvs_of (cs := cs) (l := l) (by simp at h; omega) (fun i hi => by
      have := hq (i + 1) (by simpa using hi)
      rw [show (i + 1) * 2 = i * 2 + 1 + 1 by omega] at this
      simpa using this)
    unfold kvs_
    rw [ih]
    rfl
theorem kv_inv {r : List SV} {p : List UInt8 × List UInt8} (h : kvOf r = some p) : ∃ c1 c2, r = [.str c1 p.1, .str c2 p.2] := by
  unfold kvOf at h
  split at h
  · rename_i c1 k c2 v
    cases h
    exact ⟨c1, c2, rfl⟩
  · cases h
theorem find_plain {F0 : Fz} : PlainFn F0 env spE 101 0 gFind := fun F k h args args' v h0 H hl hg hp => by
  unfold gFind at hg
  split at hg
  · rename_i x c key
    split at hg
    · rename_i n nl e hx
      obtain ⟨hb, hg⟩ := br_bad hg
      simp only [RT.sel, Option.some.injEq] at hg
      subst hg
      simp only [Bool.and_eq_true] at hb
      obtain ⟨b1, b2, b3⟩ := hb
      obtain ⟨y1, l1, rfl, hy1, hl2⟩ := hl.cons_inv
      obtain ⟨y2, l2, rfl, hy2, hl3⟩ := hl2.cons_inv
      obtain rfl := hl3.nil_inv
      obtain rfl := hy2.str_inv
      have hsp : spE 101 = some spFind := by unfold spE; rfl
      have fin : ∀ r, spFind [y1, .string ⟨⟨key⟩⟩] h = some (found_ (r.map fun x => ⟨⟨x⟩⟩), h) → r = findB key (lsR kvOf kv0 n e) →
          ∃ N v' h', (∀ m, N ≤ m → (match spE 101 with | some q => q [y1, .string ⟨⟨key⟩⟩] h | none => match runCode env spE m (.inr (101, [y1, .string ⟨⟨key⟩⟩])) ⟨0, 0, .nil⟩ h with | .ok _ r h => some (r.eval (.tmp 0), h) | .bad => none) = some (v', h')) ∧
            VRs (fun _ => none) Im0 (.tup [.str false (optS (findB key (lsR kvOf kv0 n e))), .bool false (optB (findB key (lsR kvOf kv0 n e)))]) v' ∧ h.next ≤ h'.next ∧ h'.next ≤ h.next + 0 ∧ ∀ b, b < h.next → h'.get b = h.get b := fun r hr hq => by
        refine ⟨0, _, h, fun m _ => by rw [hsp]; exact hr, ?_, Nat.le_refl _, Nat.le_refl _, fun b _ => rfl⟩
        rw [← hq]
        have two : ∀ (s : List UInt8) (b : Bool), VRs (fun _ => none) Im0 (.tup [.str false s, .bool false b]) (.tuple ⟨[.string ⟨⟨s⟩⟩, .bool b]⟩) := fun s b =>
          .tup _ _ _ rfl fun i x y hx hy => by
            rcases i with _ | _ | i
            · simp at hx hy; subst hx hy; exact .str ..
            · simp at hx hy; subst hx hy; exact .bool ..
            · simp at hx
        cases r with
        | none => exact two [] false
        | some s => exact two s true
      unfold slR at hx
      split at hx
      · rename_i st k' n' nl' e'
        split at hx
        · rename_i hk
          simp only [Option.some.injEq, Prod.mk.injEq] at hx
          obtain ⟨rfl, rfl, rfl⟩ := hx
          have := Nat.eq_of_beq_eq_true hk
          subst this
          cases hy1 with
          | fsl _ _ _ _ _ _ b o cs t cap f1 f2 f3 f4 f5 f6 f7 =>
            obtain ⟨_, _, _, e2, x2, ro2, hget⟩ := H.frz b cs t f1
            have hld : loadCells_ h ⟨b, o, none⟩ (n' * 2) = some ((cs.drop o).take (n' * 2)) := by
              unfold loadCells_
              simp only [hget]
              exact lcut_ok (by omega)
            have hlen : (lsR kvOf kv0 n' e').length = n' := lsR_len
            have hz : kvs_ ((cs.drop o).take (n' * 2)) = some ((lsR kvOf kv0 n' e').map kvB) := by
              refine kvs_of (by rw [hlen]; simp; omega) fun i hi => ?_
              rw [hlen] at hi
              unfold wfR at b2
              have hw := List.all_eq_true.1 b2 i (by simpa using hi)
              obtain ⟨p, hp2⟩ := Option.isSome_iff_exists.1 hw
              have ep0 : (lsR kvOf kv0 n' e')[i]? = some p := by
                unfold lsR
                simp [hi, hp2]
              have ep := (List.getElem?_eq_some_iff.1 ep0).2
              obtain ⟨c1, c2, er⟩ := kv_inv hp2
              rw [ep]
              have at_ : ∀ j, j < 2 → ((cs.drop o).take (n' * 2))[i * 2 + j]? = cs[o + i * 2 + j]? := fun j hj => by
                rw [List.getElem?_take, if_pos (by omega), List.getElem?_drop, show o + (i * 2 + j) = o + i * 2 + j by omega]
              have some_ : ∀ j, j < 2 → ∃ y, cs[o + i * 2 + j]? = some y := fun j hj => ⟨_, List.getElem?_eq_getElem (by omega)⟩
              obtain ⟨u0, hu0⟩ := some_ 0 (by omega)
              obtain ⟨u1, hu1⟩ := some_ 1 (by omega)
              have r0 := f7 i 0 (.str c1 p.1) u0 hi (by rw [er]; rfl) hu0
              have r1 := f7 i 1 (.str c2 p.2) u1 hi (by rw [er]; rfl) hu1
              have a0 := at_ 0 (by omega)
              have a1 := at_ 1 (by omega)
              rw [hu0, r0.str_inv] at a0
              rw [hu1, r1.str_inv] at a1
              exact ⟨a0, a1⟩
            refine fin (findB key (lsR kvOf kv0 n' e')) ?_ rfl
            unfold spFind
            simp only [b1, hld, hz]
            rw [found_find]
          | fslN _ _ _ _ _ f1 => exact fin none rfl (by unfold lsR; rfl)
          | fslE => unfold someOr at b3; simp at b3
        · cases hx
      · simp only [Option.some.injEq, Prod.mk.injEq] at hx
        obtain ⟨rfl, rfl, rfl⟩ := hx
        obtain ⟨rfl, _⟩ := hy1.raw_inv
        exact fin none rfl (by unfold lsR; rfl)
      · cases hx
    · cases hg
  · cases hg
end Go.Proofs.YthloojeefdjpjaaGreatDoor.Se

/- salvorkeep.Right, told. -/
namespace Go.Proofs.YthloojeefdjpjaaGreatDoor.Se
open Go Go.Proofs.YthloojeefdjpjaaGreatDoor Go.RowKit
set_option linter.unusedVariables false
set_option maxRecDepth 1000000
abbrev rightF : FuncId := 31
def rightL : Nat → List UInt8
  | 0 => [97]
  | 1 => [98]
  | 2 => [99]
  | 3 => [100, 115, 116]
  | 4 => [109, 97, 112]
  | _ => [120, 45, 49]
def gRight (args : List SV) : RT SV :=
  match args with
  | [.int .u8 _ (.ofNat k)] => .br (Nat.blt k 256) (.ret (.str false (rightL (k % 6)))) .bad
  | _ => .bad
noncomputable def rightS (k kk : Nat) : Option (SV × SH) := (sanswer env TB 300 rightF [.int .u8 true (.ofNat k)] ⟨0, kk, 100, [], .nil⟩).sel
theorem right_all (kk : Nat) : (List.range 256).all (fun k => match rightS k kk with | some (.str _ s, _) => s == rightL (k % 6) | _ => false) = true := by kernel_rfl
theorem right_plain {F0 : Fz} : PlainFn F0 env spE rightF 100 gRight := fun F k h args args' v h0 H hl hg hp => by
  unfold gRight at hg
  split at hg
  · rename_i c n
    obtain ⟨hb, hg⟩ := br_bad hg
    have hn : n < 256 := by simpa [Nat.blt_eq] using hb
    have hv := (Option.some.inj hg).symm
    clear hg
    subst hv
    have := List.all_eq_true.1 (right_all k) n (by simpa using hn)
    split at this
    · rename_i c2 s sh' hs
      have es : s = rightL (n % 6) := by simpa using this
      subst es
      have hl1 : LRs F Im0 [.int .u8 true (.ofNat n)] args' := by
        obtain ⟨y, l, e, hy, hl2⟩ := hl.cons_inv
        have e2 := hl2.nil_inv
        rw [e, e2, hy.int_inv]
        exact .cons (.int ..) (.nil ..)
      obtain ⟨N, v', h', q1, q2, q3⟩ := pf_of (hT := TB_ok (F0 := F0)) (hf := rfl) (args := [.int .u8 true (.ofNat n)]) hs rfl h0 H hl1
      exact ⟨N, v', h', q1, by rw [q2.str_inv]; exact .str .., q3⟩
    · cases this
  · cases hg
end Go.Proofs.YthloojeefdjpjaaGreatDoor.Se

/- num.Dec of small numbers, told. -/
namespace Go.Proofs.YthloojeefdjpjaaGreatDoor.Se
open Go Go.Proofs.YthloojeefdjpjaaGreatDoor Go.RowKit
set_option linter.unusedVariables false
set_option maxRecDepth 1000000
def gNd (args : List SV) : RT SV :=
  match args with
  | [.int .u64 _ u] => .br (decide (100 ≤ u) && decide (u < 1000)) (.ret (.int .i64 true 3)) (.br (decide (1000 ≤ u) && decide (u < 10000)) (.ret (.int .i64 true 4)) (.br (decide (10000 ≤ u) && decide (u < 100000)) (.ret (.int .i64 true 5)) .bad))
  | _ => .bad
theorem nd_plain {F0 : Fz} (hP : F0 Tryz.powG = some (powC, 0)) : PlainFn F0 env spE 331 0 gNd := fun F k h args args' v h0 H hl hg hp => by
  unfold gNd at hg
  split at hg
  · rename_i c u
    have hsp : spE 331 = some spNd := by unfold spE; rfl
    have ha : args' = [.int .u64 u] := by
      obtain ⟨y, l, e, hy, hl2⟩ := hl.cons_inv
      rw [e, hl2.nil_inv, hy.int_inv]
    obtain ⟨_, _, _, e2, x2, ro2, hget⟩ := H.frz _ _ _ (h0 _ _ hP)
    have key : ∀ (n d : Nat), u = Int.ofNat n → 1 ≤ n → n < 100000 → Lib.nDigits n = d → v = .int .i64 true (.ofNat d) →
        ∃ N v' h', (∀ m, N ≤ m → (match spE 331 with | some q => q args' h | none => match runCode env spE m (.inr (331, args')) ⟨0, 0, .nil⟩ h with | .ok _ r h => some (r.eval (.tmp 0), h) | .bad => none) = some (v', h')) ∧
          VRs (fun _ => none) Im0 v v' ∧ h.next ≤ h'.next ∧ h'.next ≤ h.next + 0 ∧ ∀ b, b < h.next → h'.get b = h.get b := by
      rintro n d rfl h1 h2 h3 rfl
      refine ⟨0, .int .i64 (Lib.nDigits n), h, fun m _ => ?_, by rw [h3]; exact .int .., Nat.le_refl _, Nat.le_refl _, fun b _ => rfl⟩
      rw [hsp, ha]
      show spNd [.int .u64 (Int.ofNat n)] h = _
      unfold spNd
      simp only
      rw [if_pos ⟨⟨e2, x2, ro2, hget⟩, h1, by omega⟩]
    have nn : ∀ {lo : Int}, 0 ≤ lo → lo ≤ u → ∃ n : Nat, u = Int.ofNat n := fun h1 h2 => ⟨u.toNat, by simp only [Int.ofNat_eq_natCast]; omega⟩
    rcases cond_sel (c := false) hg with ⟨hb, g1⟩ | ⟨_, g1⟩
    · have g2 : v = .int .i64 true (.ofNat 3) := (Option.some.inj g1).symm
      simp only [Bool.and_eq_true, decide_eq_true_eq] at hb
      obtain ⟨n, e⟩ := nn (lo := 100) (by omega) hb.1
      rw [e] at hb
      simp only [Int.ofNat_eq_natCast] at hb
      exact key n 3 e (by omega) (by omega) (Lib.nDigits_unique 2 n (by omega) (by omega)) g2
    · rcases cond_sel (c := false) g1 with ⟨hb, g1⟩ | ⟨_, g1⟩
      · have g2 : v = .int .i64 true (.ofNat 4) := (Option.some.inj g1).symm
        simp only [Bool.and_eq_true, decide_eq_true_eq] at hb
        obtain ⟨n, e⟩ := nn (lo := 1000) (by omega) hb.1
        rw [e] at hb
        simp only [Int.ofNat_eq_natCast] at hb
        exact key n 4 e (by omega) (by omega) (Lib.nDigits_unique 3 n (by omega) (by omega)) g2
      · obtain ⟨hb, g1⟩ := br_bad g1
        have g2 : v = .int .i64 true (.ofNat 5) := (Option.some.inj g1).symm
        simp only [Bool.and_eq_true, decide_eq_true_eq] at hb
        obtain ⟨n, e⟩ := nn (lo := 10000) (by omega) hb.1
        rw [e] at hb
        simp only [Int.ofNat_eq_natCast] at hb
        exact key n 5 e (by omega) (by omega) (Lib.nDigits_unique 4 n (by omega) (by omega)) g2
  · cases hg
noncomputable def TNd : Told := TB.withF 331 (toldCall 0 gNd)
theorem TNd_ok {F0 : Fz} (hP : F0 Tryz.powG = some (powC, 0)) : ToldOk F0 env spE TNd := fn_told TB_ok (nd_plain hP)
abbrev decF : FuncId := 32
noncomputable def decFT (n : Nat) : RT Lf := fnT env TNd decF 1000 [.int .i64 false (.ofNat n)] []
def tab : List UInt8 := [48, 48, 48, 49, 48, 50, 48, 51, 48, 52, 48, 53, 48, 54, 48, 55, 48, 56, 48, 57, 49, 48, 49, 49, 49, 50, 49, 51, 49, 52, 49, 53, 49, 54, 49, 55, 49, 56, 49, 57, 50, 48, 50, 49, 50, 50, 50, 51, 50, 52, 50, 53, 50, 54, 50, 55, 50, 56, 50, 57, 51, 48, 51, 49, 51, 50, 51, 51, 51, 52, 51, 53, 51, 54, 51, 55, 51, 56, 51, 57, 52, 48, 52, 49, 52, 50, 52, 51, 52, 52, 52, 53, 52, 54, 52, 55, 52, 56, 52, 57, 53, 48, 53, 49, 53, 50, 53, 51, 53, 52, 53, 53, 53, 54, 53, 55, 53, 56, 53, 57, 54, 48, 54, 49, 54, 50, 54, 51, 54, 52, 54, 53, 54, 54, 54, 55, 54, 56, 54, 57, 55, 48, 55, 49, 55, 50, 55, 51, 55, 52, 55, 53, 55, 54, 55, 55, 55, 56, 55, 57, 56, 48, 56, 49, 56, 50, 56, 51, 56, 52, 56, 53, 56, 54, 56, 55, 56, 56, 56, 57, 57, 48, 57, 49, 57, 50, 57, 51, 57, 52, 57, 53, 57, 54, 57, 55, 57, 56, 57, 57]
def d36 : List UInt8 := [48, 49, 50, 51, 52, 53, 54, 55, 56, 57, 97, 98, 99, 100, 101, 102, 103, 104, 105, 106, 107, 108, 109, 110, 111, 112, 113, 114, 115, 116, 117, 118, 119, 120, 121, 122]
def uS (n : Nat) : Int := IntKind.u32.wrap (IntKind.u64.wrap (Int.ofNat n))
def loA (n : Nat) : Int := IntKind.u32.wrap ((uS n).tmod 100 * 2)
def loA1 (n : Nat) : Int := IntKind.u32.wrap (loA n + 1)
def hiA (n : Nat) : Int := IntKind.u8.wrap (IntKind.u32.wrap (48 + IntKind.u32.wrap ((uS n).tdiv 100)))
def mS4 (n : Nat) : Int := (uS n).tmod 10000
def loB (n : Nat) : Int := IntKind.u32.wrap ((mS4 n).tmod 100 * 2)
def loB1 (n : Nat) : Int := IntKind.u32.wrap (loB n + 1)
def miB (n : Nat) : Int := IntKind.u32.wrap (IntKind.u32.wrap ((mS4 n).tdiv 100) * 2)
def miB1 (n : Nat) : Int := IntKind.u32.wrap (miB n + 1)
def hiB (n : Nat) : Int := IntKind.u8.wrap (IntKind.u32.wrap (48 + IntKind.u32.wrap ((uS n).tdiv 10000)))
def bI (x : Int) : UInt8 := byteOf [.int .u8 false x]
def bT (x : Int) : UInt8 := bI (Int.ofNat (tab.getD x.toNat 0).toNat)
def s1 (n : Nat) : Int := IntKind.i64.wrap (Int.ofNat n + 1)
def s2 (n : Nat) : Int := IntKind.i64.wrap (Int.ofNat n * 2)
def s3 (n : Nat) : Int := IntKind.i64.wrap (s2 n + 2)
def c3 (n : Nat) : Bool := decide (100 ≤ IntKind.u64.wrap (Int.ofNat n)) && decide (IntKind.u64.wrap (Int.ofNat n) < 1000)
def c4 (n : Nat) : Bool := decide (1000 ≤ IntKind.u64.wrap (Int.ofNat n)) && decide (IntKind.u64.wrap (Int.ofNat n) < 10000)
def c5 (n : Nat) : Bool := decide (10000 ≤ IntKind.u64.wrap (Int.ofNat n)) && decide (IntKind.u64.wrap (Int.ofNat n) < 100000)
theorem dec1_way (n : Nat) : (decFT n).follow [true, true, true, true, true, true, true] = some ([(true, true), (decide (Int.ofNat n < 100), true), (decide (Int.ofNat n < 10), true), (decide (0 ≤ s1 n), true), (Nat.ble (s1 n).toNat 36, true), (true, true), (Nat.ble n (s1 n).toNat, true)],
    ⟨.ret, [.str false (List.take ((s1 n).toNat - n) (List.drop n d36))], [], []⟩) := by kernel_rfl
theorem dec2_way (n : Nat) : (decFT n).follow [true, true, false, true, true, true, true] = some ([(true, true), (decide (Int.ofNat n < 100), true), (decide (Int.ofNat n < 10), false), (decide (0 ≤ s3 n), true), (Nat.ble (s3 n).toNat 200, true), (decide (0 ≤ s2 n), true), (Nat.ble (s2 n).toNat (s3 n).toNat, true)],
    ⟨.ret, [.str false (List.take ((s3 n).toNat - (s2 n).toNat) (List.drop (s2 n).toNat tab))], [], []⟩) := by kernel_rfl
theorem dec3_way (n : Nat) : (decFT n).follow [true, false, false, true, true, true, true, true, false, true] = some ([(true, true), (decide (Int.ofNat n < 100), false), (false, false), (c3 n, true), (decide (0 ≤ loA1 n), true), (Nat.blt (loA1 n).toNat 200, true), (decide (0 ≤ loA n), true), (Nat.blt (loA n).toNat 200, true), (false, false), (true, true)],
    ⟨.ret, [.str false [bI (hiA n), bT (loA n), bT (loA1 n)]], [], []⟩) := by kernel_rfl
theorem dec4_way (n : Nat) : (decFT n).follow [true, false, false, false, true, true, true, true, true, true, true, true, true, false, true] = some ([(true, true), (decide (Int.ofNat n < 100), false), (false, false), (c3 n, false), (c4 n, true), (decide (0 ≤ loB1 n), true), (Nat.blt (loB1 n).toNat 200, true), (decide (0 ≤ loB n), true), (Nat.blt (loB n).toNat 200, true),
      (decide (0 ≤ miB1 n), true), (Nat.blt (miB1 n).toNat 200, true), (decide (0 ≤ miB n), true), (Nat.blt (miB n).toNat 200, true), (false, false), (true, true)],
    ⟨.ret, [.str false [bT (miB n), bT (miB1 n), bT (loB n), bT (loB1 n)]], [], []⟩) := by kernel_rfl
theorem dec5_way (n : Nat) : (decFT n).follow [true, false, false, false, false, true, true, true, true, true, true, true, true, true, false, true] = some ([(true, true), (decide (Int.ofNat n < 100), false), (false, false), (c3 n, false), (c4 n, false), (c5 n, true), (decide (0 ≤ loB1 n), true), (Nat.blt (loB1 n).toNat 200, true), (decide (0 ≤ loB n), true), (Nat.blt (loB n).toNat 200, true),
      (decide (0 ≤ miB1 n), true), (Nat.blt (miB1 n).toNat 200, true), (decide (0 ≤ miB n), true), (Nat.blt (miB n).toNat 200, true), (false, false), (true, true)],
    ⟨.ret, [.str false [bI (hiB n), bT (miB n), bT (miB1 n), bT (loB n), bT (loB1 n)]], [], []⟩) := by kernel_rfl
end Go.Proofs.YthloojeefdjpjaaGreatDoor.Se

/- num.Dec of small numbers, told. -/
namespace Go.Proofs.YthloojeefdjpjaaGreatDoor.Se
open Go Go.Proofs.YthloojeefdjpjaaGreatDoor Go.RowKit
set_option linter.unusedVariables false
set_option maxRecDepth 1000000
def dg (d : Nat) : UInt8 := UInt8.ofNat (48 + d)
def decN (n : Nat) : List UInt8 :=
  if n < 10 then [dg n]
  else if n < 100 then [dg (n / 10), dg (n % 10)]
  else if n < 1000 then [dg (n / 100), dg (n % 100 / 10), dg (n % 100 % 10)]
  else if n < 10000 then [dg (n % 10000 / 100 / 10), dg (n % 10000 / 100 % 10), dg (n % 10000 % 100 / 10), dg (n % 10000 % 100 % 10)]
  else [dg (n / 10000), dg (n % 10000 / 100 / 10), dg (n % 10000 / 100 % 10), dg (n % 10000 % 100 / 10), dg (n % 10000 % 100 % 10)]
theorem dg_nat {d : Nat} (h : d < 10) : (dg d).toNat = 48 + d := by
  unfold dg
  simp only [UInt8.toNat_ofNat']
  omega
theorem dg_dig {d : Nat} (h : d < 10) : isDig (dg d) = true := dig_iff.2 (by rw [dg_nat h]; omega)
theorem dec_ok {n : Nat} (h : n < 100000) : okD (decN n) = true ∧ valN (decN n) = n := by
  have all : ∀ l : List Nat, (∀ d, d ∈ l → d < 10) → 1 ≤ l.length → l.length ≤ 18 → okD (l.map dg) = true ∧ valN (l.map dg) = l.foldl (fun a d => a * 10 + d) 0 := fun l hl h1 h2 => by
    refine ⟨okD_iff.2 ⟨List.all_eq_true.2 fun x hx => ?_, by simpa using h1, by simpa using h2⟩, ?_⟩
    · obtain ⟨d, hd, rfl⟩ := List.mem_map.1 hx
      exact dg_dig (hl d hd)
    · unfold valN
      rw [List.foldl_map]
      have : ∀ (l : List Nat) (a : Nat), (∀ d, d ∈ l → d < 10) → l.foldl (fun a d => a * 10 + ((dg d).toNat - 48)) a = l.foldl (fun a d => a * 10 + d) a := by
        intro l
        induction l with
        | nil => intro a _; rfl
        | cons d l ih =>
          intro a hl
          simp only [List.foldl_cons]
          rw [dg_nat (hl d (by simp)), show 48 + d - 48 = d by omega]
          exact ih _ fun x hx => hl x (by simp [hx])
      exact this l 0 hl
  unfold decN
  split
  · obtain ⟨a, b⟩ := all [n] (by simp; omega) (by simp) (by simp)
    refine ⟨a, ?_⟩
    simp only [List.map_cons, List.map_nil] at b
    rw [b]
    simp
  · split
    · obtain ⟨a, b⟩ := all [n / 10, n % 10] (by simp; omega) (by simp) (by simp)
      refine ⟨a, ?_⟩
      simp only [List.map_cons, List.map_nil] at b
      rw [b]
      simp only [List.foldl_cons, List.foldl_nil]
      omega
    · split
      · obtain ⟨a, b⟩ := all [n / 100, n % 100 / 10, n % 100 % 10] (by simp; omega) (by simp) (by simp)
        refine ⟨a, ?_⟩
        simp only [List.map_cons, List.map_nil] at b
        rw [b]
        simp only [List.foldl_cons, List.foldl_nil]
        omega
      · split
        · obtain ⟨a, b⟩ := all [n % 10000 / 100 / 10, n % 10000 / 100 % 10, n % 10000 % 100 / 10, n % 10000 % 100 % 10] (by simp; omega) (by simp) (by simp)
          refine ⟨a, ?_⟩
          simp only [List.map_cons, List.map_nil] at b
          rw [b]
          simp only [List.foldl_cons, List.foldl_nil]
          omega
        · obtain ⟨a, b⟩ := all [n / 10000, n % 10000 / 100 / 10, n % 10000 / 100 % 10, n % 10000 % 100 / 10, n % 10000 % 100 % 10] (by simp; omega) (by simp) (by simp)
          refine ⟨a, ?_⟩
          simp only [List.map_cons, List.map_nil] at b
          rw [b]
          simp only [List.foldl_cons, List.foldl_nil]
          omega
theorem tab_all : (List.range 100).all (fun r => tab.getD (r * 2) 0 == dg (r / 10) && tab.getD (r * 2 + 1) 0 == dg (r % 10)) = true := by kernel_rfl
theorem tab_at {r : Nat} (h : r < 100) : tab.getD (r * 2) 0 = dg (r / 10) ∧ tab.getD (r * 2 + 1) 0 = dg (r % 10) := by
  have := List.all_eq_true.1 tab_all r (by simpa using h)
  simpa using this
theorem small1 : (List.range 10).all (fun n => List.take 1 (List.drop n d36) == [dg n]) = true := by kernel_rfl
theorem small2 : (List.range 100).all (fun n => List.take 2 (List.drop (n * 2) tab) == [dg (n / 10), dg (n % 10)]) = true := by kernel_rfl
theorem u32_in {n : Nat} (h : n < 4294967296) : IntKind.u32.wrap (Int.ofNat n) = Int.ofNat n := by
  show Int.ofNat n % 4294967296 = Int.ofNat n
  exact Int.emod_eq_of_lt (by simp) (by simp only [Int.ofNat_eq_natCast]; omega)
theorem u8_in {n : Nat} (h : n < 256) : IntKind.u8.wrap (Int.ofNat n) = Int.ofNat n := by
  show Int.ofNat n % 256 = Int.ofNat n
  exact Int.emod_eq_of_lt (by simp) (by simp only [Int.ofNat_eq_natCast]; omega)
theorem i64_nat {n : Nat} (h : n < 1099511627776) : IntKind.i64.wrap (Int.ofNat n) = Int.ofNat n := IntWalk.i64_in _ (by simp only [Int.ofNat_eq_natCast]; omega)
theorem uS_eq {n : Nat} (h : n < 100000) : uS n = Int.ofNat n := by
  unfold uS
  rw [u64_in (by omega), u32_in (by omega)]
theorem bI_nat {n : Nat} : bI (Int.ofNat n) = UInt8.ofNat n := rfl
theorem bT_eq {r : Nat} (h : r < 100) : bT (Int.ofNat (r * 2)) = dg (r / 10) ∧ bT (Int.ofNat (r * 2 + 1)) = dg (r % 10) := by
  obtain ⟨h1, h2⟩ := tab_at h
  unfold bT
  have e1 : (Int.ofNat (r * 2)).toNat = r * 2 := rfl
  have e2 : (Int.ofNat (r * 2 + 1)).toNat = r * 2 + 1 := rfl
  rw [e1, e2, h1, h2, bI_nat, bI_nat]
  exact ⟨UInt8.ofNat_toNat, UInt8.ofNat_toNat⟩
theorem two_of {r : Nat} (h : r < 100) : IntKind.u32.wrap (Int.ofNat r * 2) = Int.ofNat (r * 2) ∧ IntKind.u32.wrap (Int.ofNat (r * 2) + 1) = Int.ofNat (r * 2 + 1) := by
  refine ⟨?_, ?_⟩
  · rw [show Int.ofNat r * 2 = Int.ofNat (r * 2) by simp]; exact u32_in (by omega)
  · rw [show Int.ofNat (r * 2) + 1 = Int.ofNat (r * 2 + 1) by simp]; exact u32_in (by omega)
theorem hi_of {d : Nat} (h : d < 10) : IntKind.u8.wrap (IntKind.u32.wrap (48 + IntKind.u32.wrap (Int.ofNat d))) = Int.ofNat (48 + d) := by
  rw [u32_in (by omega), show (48 : Int) + Int.ofNat d = Int.ofNat (48 + d) by simp, u32_in (by omega), u8_in (by omega)]
theorem tests_i {r : Nat} (h : r < 100) : decide (0 ≤ Int.ofNat (r * 2)) = true ∧ decide (0 ≤ Int.ofNat (r * 2 + 1)) = true ∧ Nat.blt (Int.ofNat (r * 2)).toNat 200 = true ∧ Nat.blt (Int.ofNat (r * 2 + 1)).toNat 200 = true := by
  refine ⟨nn_nat _, nn_nat _, ?_, ?_⟩
  · show Nat.blt (r * 2) 200 = true
    simp [Nat.blt_eq]; omega
  · show Nat.blt (r * 2 + 1) 200 = true
    simp [Nat.blt_eq]; omega
def gDec (args : List SV) : RT SV :=
  match args with
  | [.int .i64 _ x] => .br (decide (0 ≤ x) && decide (x < 100000)) (.ret (.str false (decN x.toNat))) .bad
  | _ => .bad
theorem dec_tree {n : Nat} (h : n < 100000) : (decFT n).sel = some ⟨.ret, [.str false (decN n)], [], []⟩ := by
  have eu := uS_eq h
  have e64 : IntKind.u64.wrap (Int.ofNat n) = Int.ofNat n := u64_in (by omega)
  by_cases h1 : n < 10
  · have hv : decN n = [dg n] := by unfold decN; rw [if_pos h1]
    have q1 : s1 n = Int.ofNat (n + 1) := by unfold s1; rw [show Int.ofNat n + 1 = Int.ofNat (n + 1) by simp]; exact i64_nat (by omega)
    have q2 := List.all_eq_true.1 small1 n (by simpa using h1)
    have q3 : List.take ((s1 n).toNat - n) (List.drop n d36) = [dg n] := by
      rw [q1, show (Int.ofNat (n + 1)).toNat - n = 1 by simp only [Int.ofNat_eq_natCast, Int.toNat_natCast]; omega]
      simpa using q2
    have w := dec1_way n
    rw [q3] at w
    rw [hv]
    refine way_sel w ?_
    have t1 : decide (Int.ofNat n < 100) = true := by simp only [Int.ofNat_eq_natCast, decide_eq_true_eq]; omega
    have t2 : decide (Int.ofNat n < 10) = true := by simp only [Int.ofNat_eq_natCast, decide_eq_true_eq]; omega
    have t3 : Nat.ble (Int.ofNat (n + 1)).toNat 36 = true := Nat.ble_eq_true_of_le (by show n + 1 ≤ 36; omega)
    have t4 : Nat.ble n (Int.ofNat (n + 1)).toNat = true := Nat.ble_eq_true_of_le (by show n ≤ n + 1; omega)
    rw [q1]
    simp only [List.all_cons, List.all_nil, t1, t2, t3, t4]
    rfl
  · by_cases h2 : n < 100
    · have hv : decN n = [dg (n / 10), dg (n % 10)] := by unfold decN; rw [if_neg h1, if_pos h2]
      have q1 : s2 n = Int.ofNat (n * 2) := by unfold s2; rw [show Int.ofNat n * 2 = Int.ofNat (n * 2) by simp]; exact i64_nat (by omega)
      have q1' : s3 n = Int.ofNat (n * 2 + 2) := by unfold s3; rw [q1, show Int.ofNat (n * 2) + 2 = Int.ofNat (n * 2 + 2) by simp]; exact i64_nat (by omega)
      have q2 := List.all_eq_true.1 small2 n (by simpa using h2)
      have q3 : List.take ((s3 n).toNat - (s2 n).toNat) (List.drop (s2 n).toNat tab) = [dg (n / 10), dg (n % 10)] := by
        rw [q1, q1', show (Int.ofNat (n * 2 + 2)).toNat - (Int.ofNat (n * 2)).toNat = 2 by simp only [Int.ofNat_eq_natCast, Int.toNat_natCast]; omega]
        show List.take 2 (List.drop (n * 2) tab) = _
        simpa using q2
      have w := dec2_way n
      rw [q3] at w
      rw [hv]
      refine way_sel w ?_
      have t1 : decide (Int.ofNat n < 100) = true := by simp only [Int.ofNat_eq_natCast, decide_eq_true_eq]; omega
      have t2 : decide (Int.ofNat n < 10) = false := by simp only [Int.ofNat_eq_natCast, decide_eq_false_iff_not]; omega
      have t3 : Nat.ble (Int.ofNat (n * 2 + 2)).toNat 200 = true := Nat.ble_eq_true_of_le (by show n * 2 + 2 ≤ 200; omega)
      have t4 : Nat.ble (Int.ofNat (n * 2)).toNat (Int.ofNat (n * 2 + 2)).toNat = true := Nat.ble_eq_true_of_le (by show n * 2 ≤ n * 2 + 2; omega)
      rw [q1, q1']
      simp only [List.all_cons, List.all_nil, t1, t2, t3, t4]
      rfl
    · have t1 : decide (Int.ofNat n < 100) = false := by simp only [Int.ofNat_eq_natCast, decide_eq_false_iff_not]; omega
      by_cases h3 : n < 1000
      · have hr : n % 100 < 100 := Nat.mod_lt _ (by decide)
        have a0 : loA n = Int.ofNat (n % 100 * 2) := by
          unfold loA; rw [eu, show (Int.ofNat n).tmod 100 = Int.ofNat (n % 100) from rfl]; exact (two_of hr).1
        have a1 : loA1 n = Int.ofNat (n % 100 * 2 + 1) := by unfold loA1; rw [a0]; exact (two_of hr).2
        have a2 : hiA n = Int.ofNat (48 + n / 100) := by
          unfold hiA; rw [eu, show (Int.ofNat n).tdiv 100 = Int.ofNat (n / 100) from rfl]; exact hi_of (by omega)
        have hv : decN n = [bI (hiA n), bT (loA n), bT (loA1 n)] := by
          unfold decN
          rw [if_neg h1, if_neg h2, if_pos h3, a0, a1, a2, (bT_eq hr).1, (bT_eq hr).2]
          rfl
        rw [hv]
        refine way_sel (dec3_way n) ?_
        have t2 : c3 n = true := by unfold c3; rw [e64]; simp only [Int.ofNat_eq_natCast, Bool.and_eq_true, decide_eq_true_eq]; omega
        obtain ⟨p1, p2, p3, p4⟩ := tests_i hr
        rw [a0, a1]
        simp only [List.all_cons, List.all_nil, t1, t2, p1, p2, p3, p4]
        rfl
      · have hm : mS4 n = Int.ofNat (n % 10000) := by unfold mS4; rw [eu]; rfl
        have hr : n % 10000 % 100 < 100 := Nat.mod_lt _ (by decide)
        have hq : n % 10000 / 100 < 100 := by omega
        have a0 : loB n = Int.ofNat (n % 10000 % 100 * 2) := by
          unfold loB; rw [hm, show (Int.ofNat (n % 10000)).tmod 100 = Int.ofNat (n % 10000 % 100) from rfl]; exact (two_of hr).1
        have a1 : loB1 n = Int.ofNat (n % 10000 % 100 * 2 + 1) := by unfold loB1; rw [a0]; exact (two_of hr).2
        have a2 : miB n = Int.ofNat (n % 10000 / 100 * 2) := by
          unfold miB; rw [hm, show (Int.ofNat (n % 10000)).tdiv 100 = Int.ofNat (n % 10000 / 100) from rfl, u32_in (by omega)]; exact (two_of hq).1
        have a3 : miB1 n = Int.ofNat (n % 10000 / 100 * 2 + 1) := by unfold miB1; rw [a2]; exact (two_of hq).2
        obtain ⟨p1, p2, p3, p4⟩ := tests_i hr
        obtain ⟨p5, p6, p7, p8⟩ := tests_i hq
        have f3 : c3 n = false := by
          unfold c3; rw [e64, Bool.and_eq_false_iff]; right; simp only [Int.ofNat_eq_natCast, decide_eq_false_iff_not]; omega
        by_cases h4 : n < 10000
        · have hv : decN n = [bT (miB n), bT (miB1 n), bT (loB n), bT (loB1 n)] := by
            unfold decN
            rw [if_neg h1, if_neg h2, if_neg h3, if_pos h4, a0, a1, a2, a3, (bT_eq hr).1, (bT_eq hr).2, (bT_eq hq).1, (bT_eq hq).2]
          rw [hv]
          refine way_sel (dec4_way n) ?_
          have t2 : c4 n = true := by unfold c4; rw [e64]; simp only [Int.ofNat_eq_natCast, Bool.and_eq_true, decide_eq_true_eq]; omega
          rw [a0, a1, a2, a3]
          simp only [List.all_cons, List.all_nil, t1, t2, f3, p1, p2, p3, p4, p5, p6, p7, p8]
          rfl
        · have a4 : hiB n = Int.ofNat (48 + n / 10000) := by
            unfold hiB; rw [eu, show (Int.ofNat n).tdiv 10000 = Int.ofNat (n / 10000) from rfl]; exact hi_of (by omega)
          have hv : decN n = [bI (hiB n), bT (miB n), bT (miB1 n), bT (loB n), bT (loB1 n)] := by
            unfold decN
            rw [if_neg h1, if_neg h2, if_neg h3, if_neg h4, a0, a1, a2, a3, a4, (bT_eq hr).1, (bT_eq hr).2, (bT_eq hq).1, (bT_eq hq).2]
            rfl
          rw [hv]
          refine way_sel (dec5_way n) ?_
          have f4 : c4 n = false := by
            unfold c4; rw [e64, Bool.and_eq_false_iff]; right; simp only [Int.ofNat_eq_natCast, decide_eq_false_iff_not]; omega
          have t2 : c5 n = true := by unfold c5; rw [e64]; simp only [Int.ofNat_eq_natCast, Bool.and_eq_true, decide_eq_true_eq]; omega
          rw [a0, a1, a2, a3]
          simp only [List.all_cons, List.all_nil, t1, t2, f3, f4, p1, p2, p3, p4, p5, p6, p7, p8]
          rfl
theorem dec_told {F0 : Fz} (hF0 : ∀ b cs t, F0 b = some (cs, t) → t = 0) (hP : F0 Tryz.powG = some (powC, 0)) : PlainFn F0 env spE decF 1000 gDec := fun F k h args args' v h0 H hl hg hp => by
  unfold gDec at hg
  split at hg
  · rename_i c1 x
    obtain ⟨hb, hg⟩ := br_bad hg
    have hv := (Option.some.inj hg).symm
    clear hg
    simp only [Bool.and_eq_true, decide_eq_true_eq] at hb
    obtain ⟨n, hn⟩ : ∃ n : Nat, x = Int.ofNat n := ⟨x.toNat, by simp only [Int.ofNat_eq_natCast]; omega⟩
    have h5 : n < 100000 := by
      have := hb.2
      rw [hn] at this
      simp only [Int.ofNat_eq_natCast] at this
      omega
    have ht : x.toNat = n := by rw [hn]; rfl
    rw [ht] at hv
    rw [hv] at hp ⊢
    exact plain_of_tree (k := k) (TNd_ok hP) hF0 rfl (dec_tree h5) (.cons (.int_eq hn) .nil) (.cons Wk.str .nil) hp h0 H hl
  · cases hg
end Go.Proofs.YthloojeefdjpjaaGreatDoor.Se

