/- A region whose operations are written down in another order is the same region. -/
import Derived.Test.YthloojeefdjpjaaGreatDoorAbO
namespace Go.Proofs.YthloojeefdjpjaaGreatDoor
open Go Go.RowKit
set_option linter.unusedVariables false
set_option linter.unusedSimpArgs false

theorem filterMap_get {α γ : Type} {f : α → Option γ} : ∀ {l : List α}, (∀ x ∈ l, ∃ y, f x = some y) → ∀ k : Nat, (l.filterMap f)[k]? = (l[k]?).bind f := by
  intro l
  induction l with
  | nil => intro _ k; simp
  | cons x l ih =>
    intro h k
    obtain ⟨y, hy⟩ := h x (List.mem_cons_self ..)
    rw [List.filterMap_cons_some hy]
    cases k with
    | zero => simp [hy]
    | succ k => simpa using ih (fun z hz => h z (List.mem_cons_of_mem _ hz)) k
theorem ren_wp {F : Fence} {n : Nat} {P : Program} {p : Nat → Nat} {o : Oper} {a : Act} {w : World} {K : Act → World → Prop} {Q : Exit → Act → World → Prop} : (ren_ p o).wpIn F n P a w K Q = o.wpIn F n P a w K Q := by
  obtain ⟨dst, op, type, pos, after, guard⟩ := o
  rfl
theorem ren_about {P : Program} {p : Nat → Nat} {o : Oper} {w : World} {ρ : Operand → Value} : (ren_ p o).about P w ρ = o.about P w ρ := by
  obtain ⟨dst, op, type, pos, after, guard⟩ := o
  rfl
structure Moved (ops ops' : Array Oper) (p q : Nat → Nat) : Prop where
  size : ops'.size = ops.size
  into : ∀ i : Nat, i < ops.size → p i < ops.size ∧ q (p i) = i
  back : ∀ k : Nat, k < ops.size → q k < ops.size ∧ p (q k) = k
  get : ∀ (i : Nat) (o : Oper), ops[i]? = some o → ops'[p i]? = some (ren_ p o)
  edge : ∀ (i : Nat) (o : Oper), ops[i]? = some o → ∀ e ∈ o.after.toList, e.on < ops.size
  guard : ∀ (i : Nat) (o : Oper) (j : Nat) (w : Bool), ops[i]? = some o → o.guard = some (j, w) → j < ops.size
theorem Moved.wanted {ops ops' : Array Oper} {p q : Nat → Nat} (S : Moved ops ops' p q) {i : Nat} {o : Oper} (ho : ops[i]? = some o) (tmps : Array Value) : Region.wanted (ren_ p o) (yielded ops' tmps) = Region.wanted o (yielded ops tmps) := by
  obtain ⟨dst, op, type, pos, after, guard⟩ := o
  cases guard with
  | none => rfl
  | some g =>
    obtain ⟨j, w⟩ := g
    have hj := S.guard i _ j w ho rfl
    have h1 : ops[j]? = some ops[j] := by simp
    have h2 := S.get j _ h1
    show (yielded ops' tmps (p j) == some w) = (yielded ops tmps j == some w)
    have : yielded ops' tmps (p j) = yielded ops tmps j := by
      unfold yielded
      rw [h1, h2]
      rfl
    rw [this]
theorem Moved.ready {ops ops' : Array Oper} {p q : Nat → Nat} (S : Moved ops ops' p q) {listed listed' : Array Bool} (h1 : listed.size = ops.size) (h2 : listed'.size = ops.size) (hl : ∀ i, i < ops.size → lst listed i = lst listed' (p i)) {i : Nat} (hi : i < ops.size) :
    i ∈ Region.ready .any ops listed ↔ p i ∈ Region.ready .any ops' listed' := by
  have hpi := (S.into i hi).1
  have ho : ops[i]? = some ops[i] := by simp
  rw [ready_mem, ready_mem, lst_of_getD (by omega), lst_of_getD (by omega), hl i hi, S.size]
  constructor
  · rintro ⟨_, h3, o, ho', h4⟩
    rw [ho] at ho'
    injection ho' with ho'
    subst ho'
    refine ⟨hpi, h3, _, S.get i _ ho, fun e he hb => ?_⟩
    have he : e ∈ (ops[i].after.map fun e => ({ e with on := p e.on } : Edge)).toList := he
    rw [Array.toList_map] at he
    obtain ⟨e0, he0, rfl⟩ := List.mem_map.1 he
    have := h4 e0 he0 (by simpa [Region.binds] using hb)
    rw [hl e0.on (S.edge i _ ho e0 he0)] at this
    exact this
  · rintro ⟨_, h3, o, ho', h4⟩
    rw [S.get i _ ho] at ho'
    injection ho' with ho'
    subst ho'
    refine ⟨hi, h3, _, ho, fun e he hb => ?_⟩
    rw [hl e.on (S.edge i _ ho e he)]
    have hm : ({ e with on := p e.on } : Edge) ∈ (ren_ p ops[i]).after.toList := by
      show _ ∈ (ops[i].after.map fun e => ({ e with on := p e.on } : Edge)).toList
      rw [Array.toList_map]
      exact List.mem_map.2 ⟨e, he, rfl⟩
    exact h4 _ hm (by simpa [Region.binds] using hb)
theorem Moved.wp {P : Program} {ops ops' : Array Oper} {p q : Nat → Nat} (S : Moved ops ops' p q) {F : Fence} {n : Nat} {Q : Exit → Act → World → Prop} : ∀ (fuel : Nat) (listed listed' : Array Bool) (a : Act) (w : World), listed.size = ops.size → listed'.size = ops.size → (∀ i, i < ops.size → lst listed i = lst listed' (p i)) →
    wpAnyIn F n P .any ops' Q fuel listed' a w → wpAnyIn F n P .any ops Q fuel listed a w := by
  intro fuel
  induction fuel with
  | zero =>
    intro listed listed' a w h1 h2 hl ⟨h3, h4⟩
    refine ⟨?_, h4⟩
    apply List.eq_nil_iff_forall_not_mem.2
    intro i hi
    have hin := (ready_mem.1 hi).1
    rw [S.ready h1 h2 hl hin, h3] at hi
    cases hi
  | succ fuel ih =>
    intro listed listed' a w h1 h2 hl ⟨h3, h4⟩
    refine ⟨fun h0 => h3 ?_, fun i hi => ?_⟩
    · apply List.eq_nil_iff_forall_not_mem.2
      intro k hk
      have hkn : k < ops.size := by have := (ready_mem.1 hk).1; rw [S.size] at this; exact this
      obtain ⟨hq, hpq⟩ := S.back k hkn
      rw [← hpq, ← S.ready h1 h2 hl hq, h0] at hk
      cases hk
    · have hin := (ready_mem.1 hi).1
      have hi' := (S.ready h1 h2 hl hin).1 hi
      have h5 := h4 _ hi'
      have ho : ops[i]? = some ops[i] := by simp
      have next : ∀ a w, wpAnyIn F n P .any ops' Q fuel (listed'.setIfInBounds (p i) true) a w → wpAnyIn F n P .any ops Q fuel (listed.setIfInBounds i true) a w := fun a w h => by
        refine ih _ _ a w (by simp [h1]) (by simp [h2]) (fun k hk => ?_) h
        rw [lst_set _ _ _ (by omega), lst_set _ _ _ (by have := (S.into i hin).1; omega)]
        by_cases hki : k = i
        · subst hki; rw [if_pos rfl, if_pos rfl]
        · rw [if_neg hki, if_neg (fun e => hki (by rw [← (S.into k hk).2, e, (S.into i hin).2])), hl k hk]
      unfold wpOpIn at h5 ⊢
      rw [S.get i _ ho] at h5
      rw [ho]
      simp only at h5 ⊢
      rw [S.wanted ho] at h5
      split
      · rename_i hwt
        rw [if_pos hwt] at h5
        rw [ren_wp] at h5
        exact Oper.wpIn_mono next h5
      · rename_i hwt
        rw [if_neg hwt] at h5
        rw [ren_about] at h5
        exact ⟨h5.1, next _ _ h5.2⟩
theorem same_of {ops : Array Oper} {ord : List Nat} (h : ordOk_ ops.toList ord = true) : Moved ops (other_ ops.toList ord).toArray (at_ ord) (fun k => match ord[k]? with | some j => j | none => 0) := by
  unfold ordOk_ at h
  simp only [Bool.and_eq_true] at h
  obtain ⟨⟨⟨h1, h2⟩, h3⟩, h4⟩ := h
  have h1 := Nat.eq_of_beq_eq_true h1
  have h2 := Nat.eq_of_beq_eq_true h2
  have hn : ops.toList.length = ops.size := by simp
  have key : ∀ i, i < ops.size → ord[at_ ord i]? = some i ∧ ∃ j, ord[i]? = some j ∧ at_ ord j = i ∧ j < ops.size := fun i hi => by
    have h5 := List.all_eq_true.1 h3 i (by simpa using hi)
    rw [Bool.and_eq_true] at h5
    obtain ⟨h5, h6⟩ := h5
    constructor
    · cases hq : ord[at_ ord i]? with
      | none => rw [hq] at h5; cases h5
      | some j => rw [hq] at h5; rw [Nat.eq_of_beq_eq_true h5]
    · cases hq : ord[i]? with
      | none => rw [hq] at h6; cases h6
      | some j =>
        rw [hq] at h6
        simp only [Bool.and_eq_true] at h6
        refine ⟨j, rfl, Nat.eq_of_beq_eq_true h6.1, ?_⟩
        have := Nat.le_of_ble_eq_true h6.2
        rw [hn] at this
        exact this
  have allo : ∀ x ∈ ord, ∃ y, (match ops.toList[x]? with | some o => some (ren_ (at_ ord) o) | none => none) = some y := fun x hx => by
    obtain ⟨k, hk, hkx⟩ := List.mem_iff_getElem.1 hx
    obtain ⟨_, j, hj, _, hjn⟩ := key k (by omega)
    have : j = x := by
      rw [List.getElem?_eq_getElem hk] at hj
      injection hj with hj
      rw [← hj]; exact hkx
    subst this
    have : ops.toList[j]? = some ops[j] := by simp [hjn]
    rw [this]
    exact ⟨_, rfl⟩
  refine ⟨by show (other_ ops.toList ord).length = _; rw [h1, hn], fun i hi => ?_, fun k hk => ?_, fun i o ho => ?_, fun i o ho e he => ?_, fun i o j w ho hgd => ?_⟩
  · obtain ⟨h5, _⟩ := key i hi
    have := (List.getElem?_eq_some_iff.1 h5).1
    refine ⟨by omega, ?_⟩
    rw [h5]
  · obtain ⟨_, j, hj, h5, h6⟩ := key k hk
    rw [hj]
    exact ⟨h6, h5⟩
  · have hi := (Array.getElem?_eq_some_iff.1 ho).1
    obtain ⟨h5, _⟩ := key i hi
    rw [List.getElem?_toArray]
    refine (filterMap_get allo (at_ ord i)).trans ?_
    rw [h5]
    simp only [Option.bind_some]
    have : ops.toList[i]? = some o := by simpa using ho
    rw [this]
  · have h5 := List.all_eq_true.1 h4 o (List.mem_of_getElem? (i := i) (by simpa using ho))
    rw [Bool.and_eq_true] at h5
    have h6 := Nat.le_of_ble_eq_true (List.all_eq_true.1 h5.1 e he)
    rw [hn] at h6
    exact h6
  · have h5 := List.all_eq_true.1 h4 o (List.mem_of_getElem? (i := i) (by simpa using ho))
    rw [Bool.and_eq_true] at h5
    have h6 := h5.2
    rw [hgd] at h6
    have h6 := Nat.le_of_ble_eq_true h6
    rw [hn] at h6
    exact h6
section
variable {P : Program} {eqs : List TypeId} (hp : P.types.size < 4000) (hs : ∀ t ∈ eqs, P.stoodInHeld t = false) (hg : ∀ t ∈ eqs, P.eqGuardType P.depth t = false) (hmix : P.follows .mixedOrders = true)
include hp hs hg hmix
theorem draws_wp {call : FuncId → List Value → Hp → Option (Value × Hp)} (hcall : CallOk P call P.globals.size) (ops : Array Oper) {r : Option Nat} {n : Nat} {Q : Exit → Act → World → Prop} {β : Bt} {a : Fr} {a' : Act} {h : Hp} {w : World} {e : Ex} {a2 : Fr} {h2 : Hp}
    (hF : FR β a a') (hgl : a.gl = P.globals.size) (H : HR P β h w) (hr : draws_ (Env.of P eqs) call ops.toList a h = .ok e a2 h2)
    (hq : ∀ β2 a2' w2, HR P β2 h2 w2 → St β h w β2 h2 w2 → FR β2 a2 a2' → a2.gl = P.globals.size → Q .normal a2' w2) (id : Nat) : (Code.region id ops true).wpIn (Fz r) n P Q a' w := by
  unfold draws_ at hr
  simp only at hr
  refine wpIn_region_any hmix ?_
  cases hd : drawOk_ (Env.of P eqs) false ops.toList (anc_ ops.toList []) with
  | true =>
    rw [hd, cond_true] at hr
    exact draws1_wp hp hs hg hcall ops rfl hd (fun h => by cases h) hF hgl H hr hq
  | false =>
    rw [hd, cond_false] at hr
    cases hdt : drawOk_ (Env.of P eqs) true ops.toList (anc_ ops.toList []) && lateOk_ (Env.of P eqs) ops.toList (anc_ ops.toList []) with
    | true =>
      rw [hdt, cond_true] at hr
      rw [Bool.and_eq_true] at hdt
      exact draws1_wp hp hs hg hcall ops rfl hdt.1 (fun _ => hdt.2) hF hgl H hr hq
    | false =>
    rw [hdt, cond_false] at hr
    generalize late_ ops.toList ops.toList.zipIdx [] = ord at hr
    cases ho : ordOk_ ops.toList ord with
    | false => rw [ho] at hr; cases hr
    | true =>
      rw [ho, cond_true] at hr
      have S := same_of ho
      unfold draws2_ at hr
      cases hdl : drawOk_ (Env.of P eqs) true (other_ ops.toList ord) (anc_ (other_ ops.toList ord) []) && lateOk_ (Env.of P eqs) (other_ ops.toList ord) (anc_ (other_ ops.toList ord) []) with
      | false => rw [hdl] at hr; cases hr
      | true =>
        rw [hdl, cond_true] at hr
        rw [Bool.and_eq_true] at hdl
        have h1 := draws1_wp (r := r) (n := n) hp hs hg hcall (other_ ops.toList ord).toArray (an := anc_ (other_ ops.toList ord) []) rfl hdl.1 (fun _ => hdl.2) hF hgl H hr hq
        rw [S.size] at h1
        refine S.wp ops.size _ _ a' _ (by simp) (by simp) (fun i hi => ?_) h1
        have : ∀ e, lst (Array.replicate ops.size false) e = false := fun e => by unfold lst; simp [Array.getD_eq_getD_getElem?, Array.getElem?_replicate]; split <;> rfl
        rw [this, this]
end
end Go.Proofs.YthloojeefdjpjaaGreatDoor
