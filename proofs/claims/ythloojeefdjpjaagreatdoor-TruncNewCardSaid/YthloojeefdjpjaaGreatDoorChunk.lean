/- slices.Chunk over bytes, at one piece. -/
import Derived.Test.YthloojeefdjpjaaGreatDoorFind
namespace Go.Proofs.YthloojeefdjpjaaGreatDoor.chunk
open Go Go.RowKit Go.Shelf
attribute [local go_sem] Oper.semAt_some
set_option linter.unusedVariables false

/-- what the iterator reads again -/
def Kp (Bs Bn : Nat) (W W' : World) : Prop := W'.heap[Bs]? = W.heap[Bs]? ∧ W'.heap[Bn]? = W.heap[Bn]?
theorem Kp.cell {Bs Bn : Nat} {W W' : World} (h : Kp Bs Bn W W') : W'.cell? ⟨Bs, 0, none⟩ = W.cell? ⟨Bs, 0, none⟩ ∧ W'.cell? ⟨Bn, 0, none⟩ = W.cell? ⟨Bn, 0, none⟩ := by
  unfold World.cell?
  exact ⟨by simp only [h.1], by simp only [h.2]⟩
theorem Kp.trans {Bs Bn : Nat} {A B C : World} (h : Kp Bs Bn A B) (k : Kp Bs Bn B C) : Kp Bs Bn A C := ⟨k.1.trans h.1, k.2.trans h.2⟩
set_option maxRecDepth 100000 in
set_option maxHeartbeats 4000000 in
theorem chunk1_in (F : Fence) (n : Nat) (h7 : F.fn 271) (hro : F.round = none) (hn : 1 ≤ n) (l Bs Bn b off len cap : Nat) (h1 : 1 ≤ len) (h2 : len < 4096) (hcap : len ≤ cap) (J Jx : List Unit → World → Prop)
    (hJd : ∀ pre W, J pre W → J pre W.drew)
    (hY : ∀ pre x W, J pre W → pre.length < 1 → YieldAt F (n - 1) Tryz.prog l #[.slice (some ⟨b, off, none⟩) len len] W fun e W' =>
      (e = .returned (.bool true) ∧ J (pre ++ [x]) W' ∧ Kp Bs Bn W W') ∨ (e = .returned (.bool false) ∧ Jx (pre ++ [x]) W'))
    (W : World) (hBs : W.cell? ⟨Bs, 0, none⟩ = some (.slice (some ⟨b, off, none⟩) len cap)) (hBn : W.cell? ⟨Bn, 0, none⟩ = some (.int .i64 4096)) (h0 : J [] W) :
    CallsIn F n Tryz.prog 271 #[.func (.yield l) #[] #[], .pointer (some ⟨Bs, 0, none⟩), .pointer (some ⟨Bn, 0, none⟩)] W fun e W' => (∃ v, e = .returned v) ∧
      ((∃ ys, ys = [()] ∧ J ys W') ∨ (∃ pre, pre = [()] ∧ Jx pre W')) := by
  refine callsIn_of_wp Tryz.func271 rfl h7 ?_ hro
  simp only [Tryz.ntmps271, List.size_toArray, List.length_cons, List.length_nil, Nat.reduceAdd, Nat.reduceSub, Array.replicate_succ, Array.replicate_zero, List.push_toArray, List.append_toArray, List.nil_append, List.cons_append]
  gi_wp2
  gi_loopw [4] (fun i wr => (wr.cell? ⟨Bs, 0, none⟩ = some (.slice (some ⟨b, off, none⟩) len cap) ∧ wr.cell? ⟨Bn, 0, none⟩ = some (.int .i64 4096)) ∧ (i = .int .i64 0 ∧ J [] wr ∨ i = .int .i64 4096 ∧ J [()] wr))
    (fun i _ => (5000 - intOf i).toNat)
  case atStart => exact ⟨⟨hBs, hBn⟩, .inl ⟨rfl, h0⟩⟩
  case round =>
    obtain ⟨⟨c1, c2⟩, hi⟩ := hrel
    rcases hi with ⟨rfl, hJs⟩ | ⟨rfl, hJs⟩
    · have d1 : wr.drew.cell? ⟨Bs, 0, none⟩ = some (.slice (some ⟨b, off, none⟩) len cap) := c1
      have d2 : wr.drew.cell? ⟨Bn, 0, none⟩ = some (.int .i64 4096) := c2
      obtain ⟨fn, tmps, assign, body, hy, hR⟩ := hY [] () wr.drew (hJd _ _ hJs) (by simp)
      have hlen : (IntKind.i64.wrap (len : Int)) = len := IntWalk.i64_in _ (by omega)
      gi_wp2
      gi_region
      all_goals gi_wp2
      all_goals (
        refine hR.mono ?_
        rintro e W3 (⟨rfl, hJ3, hk3⟩ | ⟨rfl, hJx3⟩)
        · have f1 := hk3.cell.1.trans d1
          have f2 := hk3.cell.2.trans d2
          gi_wp2
          go_roundw
          case rel => exact ⟨⟨f1, f2⟩, .inr ⟨by simp, hJ3⟩⟩
          case measure => simp [intOf]
        · gi_wp2
          refine bodyPost_ret (results_none rfl _ _ _) rfl ?_
          exact ⟨⟨_, rfl⟩, .inr ⟨_, rfl, hJx3⟩⟩)
    · gi_wp2
      go_end0
      exact ⟨⟨_, rfl⟩, .inl ⟨_, rfl, hJs⟩⟩
set_option maxHeartbeats 1000000 in
theorem chunk_in (F : Fence) (n : Nat) (h5 : F.fn 167) (hro : F.round = none) (a : Option Addr) (len cap : Nat) (w : World) :
    CallsIn F n Tryz.prog 167 #[.slice a len cap, .int .i64 4096] w fun e w' => e = .returned (.func (.func 271) #[] #[.pointer (some ⟨w.heap.size, 0, none⟩), .pointer (some ⟨w.heap.size + 1, 0, none⟩)]) ∧ w' = (w.alloc (.cells #[.slice a len cap] 26)).alloc (.cells #[.int .i64 4096] 3) := by
  refine callsIn_of_wp Tryz.func167 rfl h5 ?_ hro
  simp only [Tryz.ntmps167, List.size_toArray, List.length_cons, List.length_nil, Nat.reduceAdd, Nat.reduceSub, Array.replicate_succ, Array.replicate_zero, List.push_toArray, List.append_toArray, List.nil_append, List.cons_append]
  gi_wp2
  go_ret
  exact ⟨rfl, rfl⟩
theorem grown_drew (w : World) (row : Option Nat) : w.grownBy w.drew row := ⟨rfl, rfl, rfl, Nat.le_refl _, fun _ _ _ => rfl⟩
theorem chunk_stops (F : Fence) (n : Nat) (h7 : F.fn 271) (hro : F.round = none) (hn : 1 ≤ n) (Bs Bn b off len cap : Nat) (h1 : 1 ≤ len) (h2 : len < 4096) (hcap : len ≤ cap) (w : World) (hBs : Bs < w.heap.size) (hBn : Bn < w.heap.size)
    (c1 : w.cell? ⟨Bs, 0, none⟩ = some (.slice (some ⟨b, off, none⟩) len cap)) (c2 : w.cell? ⟨Bn, 0, none⟩ = some (.int .i64 4096)) :
    SeqStopsK F n Tryz.prog 271 #[.pointer (some ⟨Bs, 0, none⟩), .pointer (some ⟨Bn, 0, none⟩)] (fun _ : Unit => #[Value.slice (some ⟨b, off, none⟩) len len]) (Kp Bs Bn) (fun ys => ys = [()]) (fun pre => pre = [()]) 1 w := fun l J Jx W hW hJ _ hY h0 =>
  chunk1_in F n h7 hro hn l Bs Bn b off len cap h1 h2 hcap J Jx (fun pre W h => hJ pre W W.drew none h (grown_drew W none) (fun r e => by cases e)) hY W ((hW.cell (p := ⟨Bs, 0, none⟩) hBs).trans c1) ((hW.cell (p := ⟨Bn, 0, none⟩) hBn).trans c2) h0
end Go.Proofs.YthloojeefdjpjaaGreatDoor.chunk
