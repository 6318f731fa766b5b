/- TruncNew: what is told. -/
import Derived.Test.YthloojeefdjpjaaGreatDoorAr

/- TruncNew: what is told. -/
namespace Go.Proofs.YthloojeefdjpjaaGreatDoor.Se
open Go Go.Proofs.YthloojeefdjpjaaGreatDoor Go.RowKit
set_option linter.unusedVariables false
set_option maxRecDepth 1000000
def gTrue (args : List SV) : RT SV := match args with | [] => .ret (.bool true true) | _ => .bad
theorem run_plain {F0 : Fz} {f : FuncId} (hsp : spE f = some (spRun f)) (ht : TrueRun f) : PlainFn F0 env spE f 0 gTrue := plain_sp (q := spRun f) hsp fun F args args' v h hl hs => by
  unfold gTrue at hs
  split at hs
  · obtain rfl := hl.nil_inv
    have hv := (Option.some.inj hs).symm
    subst hv
    exact ⟨.bool true, by unfold spRun; simp only [if_pos ht], .bool ..⟩
  · cases hs
/-- arguments, numbers, names -/
noncomputable def TA : Told := (((TB.withF 101 (toldCall 0 gFind)).withF rightF (toldCall 100 gRight)).withF decF (toldCall 1000 gDec)).withF getF (toldCall 10000 gGet)
theorem TA_ok {F0 : Fz} (hF0 : ∀ b cs t, F0 b = some (cs, t) → t = 0) (hP : F0 Tryz.powG = some (powC, 0)) : ToldOk F0 env spE TA :=
  fn_told (fn_told (fn_told (fn_told TB_ok find_plain) right_plain) (dec_told hF0 hP)) (get_told hF0)
noncomputable def TTn : Told := TA.withF 37 (toldCall 0 gTrue)
theorem TTn_ok {F0 : Fz} (hF0 : ∀ b cs t, F0 b = some (cs, t) → t = 0) (hP : F0 Tryz.powG = some (powC, 0)) (ht : TrueRun 37) : ToldOk F0 env spE TTn :=
  fn_told (TA_ok hF0 hP) (run_plain (by unfold spE; rfl) ht)
noncomputable def tnT (n : Nat) (keep : Bool) (name : Nat) : RT (SV × SH) := sanswer env TTn 20000 7 [.int .u16 false (.ofNat n), .bool false keep, .int .u8 false (.ofNat name)] sh0
end Go.Proofs.YthloojeefdjpjaaGreatDoor.Se

/- TruncNew: its ways. -/
namespace Go.Proofs.YthloojeefdjpjaaGreatDoor.Se
open Go Go.Proofs.YthloojeefdjpjaaGreatDoor Go.RowKit
set_option linter.unusedVariables false
set_option maxRecDepth 1000000
def nI (n : Nat) : Int := IntKind.i64.wrap (Int.ofNat n)
def dN (n : Nat) : List UInt8 := decN (nI n).toNat
def rN (name : Nat) : List UInt8 := rightL (name % 6)
def tX (n : Nat) : List UInt8 := List.take (([45, 115] ++ dN n).length - 1) (115 :: dN n)
def tV (n : Nat) : List UInt8 := List.take ((tX n).length - 1) (List.drop 1 (tX n))
/-- the tests of a way that ends in 'true' -/
def trueAt (t : RT (SV × SH)) (p : List Bool) : Option (List (Bool × Bool)) :=
  match t.follow p with
  | some (cs, (.bool _ true, _)) => some cs
  | _ => none
theorem true_sel {t : RT (SV × SH)} {p : List Bool} {cs : List (Bool × Bool)} (h : trueAt t p = some cs) (hc : (cs.all fun p => p.1 == p.2) = true) : ∃ c sh, t.sel = some (.bool c true, sh) := by
  unfold trueAt at h
  split at h
  · rename_i cs2 c sh e
    cases h
    exact ⟨c, sh, way_sel e hc⟩
  · cases h
end Go.Proofs.YthloojeefdjpjaaGreatDoor.Se

