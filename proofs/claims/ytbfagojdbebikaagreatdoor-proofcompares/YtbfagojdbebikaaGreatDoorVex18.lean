/- VEX, part 18: what an operation looks at; an operation that reads leaves the blocks as they were. Generic in the program. -/
import Derived.Test.YtbfagojdbebikaaGreatDoorVex17
namespace Go.Vex
open Go Go.RowKit

section
variable {P : Program} {X : FuncId → Option Ext} {G : Nat} {ts ts' : T V} {st st' : St}

theorem evs_congr : ∀ {l : List Operand}, (∀ x ∈ l, ev G ts x = ev G ts' x) → evs G ts l = evs G ts' l
  | [], _ => rfl
  | x :: xs, h => by
    simp only [evs]
    rw [h x List.mem_cons_self, evs_congr fun y hy => h y (List.mem_cons_of_mem _ hy)]
theorem partsV_congr : ∀ {l : List (Nat × Operand)}, (∀ x ∈ l.map (·.2), ev G ts x = ev G ts' x) → partsV G ts l = partsV G ts' l
  | [], _ => rfl
  | (i, x) :: xs, h => by
    simp only [partsV]
    rw [h x (by simp), partsV_congr fun y hy => h y (by simp only [List.map_cons, List.mem_cons]; exact .inr hy)]
theorem evO_congr {x : Option Operand} (h : ∀ y, x = some y → ev G ts y = ev G ts' y) : evO G ts x = evO G ts' x := by
  cases x with
  | none => rfl
  | some y => simp only [evO]; rw [h y rfl]

theorem allocV_congr {o : Op} (h : ∀ x ∈ o.operands.toList, ev G ts x = ev G ts' x) : allocV P G ts o = allocV P G ts' o := by
  cases o <;> try rfl
  case box t x => simp only [allocV]; rw [h x (by simp [Op.operands])]
  case buildSlice t len ps => simp only [allocV]; rw [partsV_congr fun y hy => h y (by simpa [Op.operands] using hy)]
  case makeMap t r => cases r <;> rfl
  case makeSlice t l c => simp only [allocV]; rw [h l (by simp [Op.operands]), h c (by simp [Op.operands])]

theorem opV_congr {o : Op} (h : ∀ x ∈ o.operands.toList, ev G ts x = ev G ts' x) : opV P G ts st o = opV P G ts' st o := by
  have ha := allocV_congr (P := P) h
  cases o <;> try rfl
  case move x => simp only [opV]; rw [h x (by simp [Op.operands])]
  case assign x => simp only [opV]; rw [h x (by simp [Op.operands])]
  case pick c a b => simp only [opV]; rw [h c (by simp [Op.operands]), h a (by simp [Op.operands]), h b (by simp [Op.operands])]
  case box t x => simp only [opV]; rw [ha]
  case build t ps => simp only [opV]; rw [partsV_congr fun y hy => h y (by simpa [Op.operands] using hy)]
  case buildSlice t len ps => simp only [opV]; rw [ha]
  case makeMap t r => cases r <;> rfl
  case makeSlice t l c => simp only [opV]; rw [ha]
  case insert t m k x => simp only [opV]; rw [h m (by simp [Op.operands]), h k (by simp [Op.operands]), h x (by simp [Op.operands])]
  case mapUpdate t m k x => simp only [opV]; rw [h m (by simp [Op.operands]), h k (by simp [Op.operands]), h x (by simp [Op.operands])]
  case load t x => simp only [opV]; rw [h x (by simp [Op.operands])]
  case store t a x => simp only [opV]; rw [h a (by simp [Op.operands]), h x (by simp [Op.operands])]
  case nilCheck x => simp only [opV]; rw [h x (by simp [Op.operands])]
  case binOp op t x y u => simp only [opV]; rw [h x (by simp [Op.operands]), h y (by simp [Op.operands])]
  case unOp op t x => simp only [opV]; rw [h x (by simp [Op.operands])]
  case convert s d x => simp only [opV]; rw [h x (by simp [Op.operands])]
  case makeInterface t x => simp only [opV]; rw [h x (by simp [Op.operands])]
  case makeFunc fn first captured =>
    cases fn <;> try rfl
    simp only [opV]
    rw [evs_congr (l := first.toList) fun y hy => h y (by simp [Op.operands] at hy ⊢; exact .inl hy), evs_congr (l := captured.toList) fun y hy => h y (by simp [Op.operands] at hy ⊢; exact .inr hy)]
  case slice t x lo hi mx =>
    simp only [opV]
    rw [h x (by simp [Op.operands]), evO_congr (x := lo) fun y hy => h y (by simp [Op.operands, hy]), evO_congr (x := hi) fun y hy => h y (by simp [Op.operands, hy]), evO_congr (x := mx) fun y hy => h y (by simp [Op.operands, hy])]
  case fieldAddr t x f => simp only [opV]; rw [h x (by simp [Op.operands])]
  case field t x f => simp only [opV]; rw [h x (by simp [Op.operands])]
  case indexAddr t x i => simp only [opV]; rw [h x (by simp [Op.operands]), h i (by simp [Op.operands])]
  case index t x i => simp only [opV]; rw [h x (by simp [Op.operands]), h i (by simp [Op.operands])]
  case lookup t x i ok => simp only [opV]; rw [h x (by simp [Op.operands]), h i (by simp [Op.operands])]
  case extract x i => simp only [opV]; rw [h x (by simp [Op.operands])]

theorem stepV_congr {self : Job → St → Option Out} {o : Oper} (h : ∀ x ∈ o.op.operands.toList, ev G ts x = ev G ts' x) : stepV P X G self ts st o = stepV P X G self ts' st o := by
  unfold stepV
  split
  · rename_i c hc
    rw [hc] at h
    rw [evs_congr (l := c.args.toList) fun y hy => h y (by simp only [Op.operands, Call.operands]; rw [Array.toList_append]; exact List.mem_append_right _ hy)]
    cases hcal : c.callee with
    | builtin b => rfl
    | invoke _ _ => rfl
    | value f =>
      simp only
      rw [h f (by simp [Op.operands, Call.operands, hcal])]
  · exact opV_congr h

def Agree (ts ts' : T V) (l : List Tmp) : Prop := ∀ t ∈ l, (ts.get t).getD undefV = (ts'.get t).getD undefV

theorem Agree.ev {ops : Array Oper} {o : Oper} (h : Agree ts ts' (o.looksAt ops)) : ∀ x ∈ o.op.operands.toList, ev G ts x = ev G ts' x := by
  intro x hx
  cases x with
  | tmp t =>
    simp only [Vex.ev]
    rw [h t (List.mem_append_left _ (List.mem_filterMap.2 ⟨.tmp t, hx, rfl⟩))]
  | _ => rfl

theorem wantedV_congr {ops : Array Oper} {N : Nat} {o : Oper} (h : Agree ts ts' (o.looksAt ops)) : wantedV ops ts N o = wantedV ops ts' N o := by
  unfold wantedV
  cases hg : o.guard with
  | none => rfl
  | some p =>
    obtain ⟨j, want⟩ := p
    have : yieldedV ops ts N j = yieldedV ops ts' N j := by
      unfold yieldedV
      cases e : (ops[j]?).bind (·.dst) with
      | none => rfl
      | some t =>
        simp only
        rw [h t (by
          refine List.mem_append_right _ ?_
          simp only [hg, e, Option.toList]
          exact List.mem_cons_self)]
    simp only [this]

theorem pair_st {α : Type} {x : Option α} {f : α → V} {v : V} (h : (x.map fun a => (f a, st)) = some (v, st')) : st' = st := by
  obtain ⟨_, _, e⟩ := map2 h
  simp only [Prod.mk.injEq] at e
  exact e.2.symm
theorem some_st {u v : V} (h : some (u, st) = some (v, st')) : st' = st := by
  simp only [Option.some.injEq, Prod.mk.injEq] at h
  exact h.2.symm

theorem quiet_opV {o : Op} {v : V} (hq : dkind P o = .quiet) (h : opV P G ts st o = some (v, st')) : st' = st := by
  cases o <;> simp only [dkind] at hq <;> try (cases hq; done)
  all_goals simp only [opV] at h
  case move x => exact pair_st h
  case assign x => exact pair_st h
  case pick c a b =>
    obtain ⟨c, _, h⟩ := bind2 h
    split at h
    · exact pair_st h
    · exact pair_st h
    · cases h
  case build t ps => obtain ⟨c, _, h⟩ := bind2 h; exact pair_st h
  case load t a =>
    obtain ⟨c, _, h⟩ := bind2 h
    split at h
    · exact pair_st h
    · cases h
  case nilCheck x =>
    obtain ⟨c, _, h⟩ := bind2 h
    split at h <;> first | exact some_st h | cases h
  case binOp op t x y u =>
    obtain ⟨c, _, h⟩ := bind2 h
    obtain ⟨d, _, h⟩ := bind2 h
    exact pair_st h
  case unOp op t x => obtain ⟨c, _, h⟩ := bind2 h; exact pair_st h
  case convert s d x =>
    obtain ⟨c, _, h⟩ := bind2 h
    split at h
    · simp_all
    · exact pair_st h
  case makeInterface t x =>
    obtain ⟨c, _, h⟩ := bind2 h
    split at h <;> first | exact some_st h | cases h
  case makeFunc fn first captured =>
    cases fn <;> simp only at h <;> try (cases h; done)
    obtain ⟨c, _, h⟩ := bind2 h
    exact pair_st h
  case slice t x lo hi mx =>
    obtain ⟨_, _, h⟩ := bind2 h
    obtain ⟨_, _, h⟩ := bind2 h
    obtain ⟨_, _, h⟩ := bind2 h
    obtain ⟨_, _, h⟩ := bind2 h
    exact pair_st h
  case fieldAddr t x f =>
    obtain ⟨_, _, h⟩ := bind2 h
    split at h
    · split at h
      · split at h <;> first | exact some_st h | cases h
      · cases h
    · cases h
  case field t x f =>
    obtain ⟨_, _, h⟩ := bind2 h
    split at h
    · split at h
      · exact pair_st h
      · cases h
    · cases h
  case indexAddr t x i =>
    obtain ⟨_, _, h⟩ := bind2 h
    obtain ⟨_, _, h⟩ := bind2 h
    split at h
    · split at h
      · exact pair_st h
      · cases h
    · split at h
      · exact pair_st h
      · cases h
    · cases h
  case index t x i =>
    obtain ⟨_, _, h⟩ := bind2 h
    obtain ⟨_, _, h⟩ := bind2 h
    split at h
    · split at h
      · obtain ⟨_, _, h⟩ := bind2 h
        exact pair_st h
      · cases h
    · split at h
      · exact pair_st h
      · cases h
    · cases h
  case lookup t x i ok =>
    obtain ⟨_, _, h⟩ := bind2 h
    obtain ⟨_, _, h⟩ := bind2 h
    split at h
    · split at h
      · split at h
        · obtain ⟨_, _, h⟩ := bind2 h
          exact pair_st h
        · cases h
      · cases h
    · cases h
  case extract x i =>
    obtain ⟨_, _, h⟩ := bind2 h
    split at h
    · exact pair_st h
    · cases h
  case call c => cases h

theorem quiet_builtinV {b : Builtin} {at_ : List TypeId} {args : List V} {v : V} (hq : b = .len ∨ b = .cap ∨ b = .min ∨ b = .max) (h : builtinV P b at_ args st = some (v, st')) : st' = st := by
  rcases hq with rfl | rfl | rfl | rfl <;> unfold builtinV at h <;> split at h <;> first
    | (cases h; done)
    | exact pair_st h
    | (rename_i hh; cases hh; done)
    | contradiction

theorem quiet_same {self : Job → St → Option Out} {o : Oper} {v : V} (hq : dkind P o.op = .quiet) (h : stepV P X G self ts st o = some (v, st')) : st' = st := by
  unfold stepV at h
  split at h
  · rename_i c hc
    rw [hc] at hq
    simp only [dkind] at hq
    obtain ⟨args, h1, h2⟩ := bind2 h
    cases hb : c.callee with
    | value f => simp only [hb] at hq; cases hq
    | invoke _ _ => simp only [hb] at hq; cases hq
    | builtin b =>
      simp only [hb] at hq h2
      refine quiet_builtinV ?_ h2
      cases b <;> simp at hq ⊢
  · exact quiet_opV hq h
end
end Go.Vex
