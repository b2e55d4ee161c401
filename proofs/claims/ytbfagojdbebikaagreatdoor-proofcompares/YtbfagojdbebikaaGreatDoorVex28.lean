/- VEX, part 28: a region that draws its order and holds calls. Generic in the program. -/
import Derived.Test.YtbfagojdbebikaaGreatDoorVex27
namespace Go.Vex
open Go Go.RowKit

mutual
theorem V.same_refl : ∀ (a : V), V.same a a = true
  | .int k n => by simp [V.same]
  | .bool x => by simp [V.same]
  | .str s => by simp [V.same]
  | .ptr l o => by simp [V.same]
  | .nptr => by simp [V.same]
  | .slice l o n c => by simp [V.same]
  | .nslice => by simp [V.same]
  | .map l => by simp [V.same]
  | .nmap => by simp [V.same]
  | .func f p q => by simp [V.same, sames_refl p, sames_refl q]
  | .yield l => by simp [V.same]
  | .nfunc => by simp [V.same]
  | .iface t v => by simp [V.same, V.same_refl v]
  | .niface => by simp [V.same]
  | .agg cs => by simp [V.same, sames_refl cs]
  | .tup cs => by simp [V.same, sames_refl cs]
theorem sames_refl : ∀ (a : List V), sames a a = true
  | [] => by simp [sames]
  | x :: xs => by simp [sames, V.same_refl x, sames_refl xs]
end

section
variable {P : Program} {X : FuncId → Option Ext} {G : Nat} {base : St} {all : Array Oper} {N n0 : Nat}

def Stab (P : Program) (X : FuncId → Option Ext) (G : Nat) (base : St) (ts : T V) (o : Oper) (v : V) : Prop := ∀ self s, Keeps base s → stepV P X G self ts s o = some (v, s)

def DGo (P : Program) (X : FuncId → Option Ext) (G : Nat) (base : St) (all : Array Oper) (N n0 i : Nat) (l : List Oper) (d : DS) (f : DS) : Prop :=
  ∃ n rs, drunV P X G (run P X G n) all N n0 i l d = some (rs, f) ∧ rs.length = l.length ∧ Keeps base f.st ∧ (∀ r ∈ rs, Keeps base r.1.st) ∧
    ∀ (k : Nat) (o : Oper) (r : DS × V), l[k]? = some o → rs[k]? = some r → dkind P o.op = .quiet → wantedV all r.1.ts N o = true → Stab P X G base r.1.ts o r.2

variable {i : Nat} {l : List Oper} {d f : DS} {o : Oper}

theorem d_nil (hk : Keeps base d.st) : DGo P X G base all N n0 i [] d d :=
  ⟨0, [], rfl, rfl, hk, fun r hr => (by cases hr), fun k o r h => (by simp at h)⟩

theorem d_step {n : Nat} {d' : DS} {v : V} (hk : Keeps base d.st) (hs : ∀ m, n ≤ m → dstepV P X G (run P X G m) all N n0 i o d = some (d', v)) (hq : dkind P o.op = .quiet → wantedV all d.ts N o = true → Stab P X G base d.ts o v)
    (h : DGo P X G base all N n0 (i + 1) l d' f) : DGo P X G base all N n0 i (o :: l) d f := by
  obtain ⟨m, rs, h1, h2, h3, h4, h5⟩ := h
  refine ⟨max n m, (d, v) :: rs, ?_, by simp [h2], h3, ?_, ?_⟩
  · simp only [drunV, hs _ (Nat.le_max_left n m), Option.bind_some, drunV_mono (run_mono (Nat.le_max_right n m)) h1, Option.map_some]
  · intro r hr
    rcases List.mem_cons.1 hr with rfl | hr
    · exact hk
    · exact h4 r hr
  · intro k o' r hl hr
    cases k with
    | zero =>
      simp only [List.getElem?_cons_zero, Option.some.injEq] at hl hr
      subst hl; subst hr
      exact hq
    | succ k =>
      simp only [List.getElem?_cons_succ] at hl hr
      exact h5 k o' r hl hr

theorem d_quiet {v : V} (hkd : dkind P o.op = .quiet) (hw : wantedV all d.ts N o = true) (hk : Keeps base d.st) (hs : Stab P X G base d.ts o v)
    (h : DGo P X G base all N n0 (i + 1) l ⟨putD d.ts N o.dst v, d.st, d.pend⟩ f) : DGo P X G base all N n0 i (o :: l) d f :=
  d_step (n := 0) hk (fun m _ => by unfold dstepV; rw [hw, hkd]; simp only [hs _ _ hk, Option.map_some]) (fun _ _ => hs) h

theorem d_not (hpend : d.pend = []) (hw : wantedV all d.ts N o = false) (hk : Keeps base d.st) (h : DGo P X G base all N n0 (i + 1) l ⟨putD d.ts N o.dst undefV, d.st, []⟩ f) : DGo P X G base all N n0 i (o :: l) d f := by
  obtain ⟨ts, st, pend⟩ := d
  simp only at hpend
  subst hpend
  refine d_step (n := 0) (v := undefV) hk (fun m _ => ?_) (fun _ hw' => ?_) h
  · unfold dstepV
    rw [hw]
    cases dkind P o.op <;> rfl
  · rw [hw] at hw'; cases hw'

theorem d_chain {v : V} {st1 : St} {n : Nat} (hpend : d.pend = []) (hkd : dkind P o.op = .chain) (hw : wantedV all d.ts N o = true) (hk : Keeps base d.st) (hs : ∀ m, n ≤ m → stepV P X G (run P X G m) d.ts d.st o = some (v, st1))
    (h : DGo P X G base all N n0 (i + 1) l ⟨putD d.ts N o.dst v, st1, []⟩ f) : DGo P X G base all N n0 i (o :: l) d f := by
  obtain ⟨ts, st, pend⟩ := d
  simp only at hpend
  subst hpend
  refine d_step (n := n) (v := v) hk (fun m hm => ?_) (fun hq => by rw [hkd] at hq; cases hq) h
  unfold dstepV
  rw [hw, hkd]
  simp only [layAll, hs m hm, Option.map_some]

theorem d_call {c : Call} {g : Operand} {fid : FuncId} {args : List V} {v : V} {st1 : St} (hpend : d.pend = []) (hx : o.op = .call c) (hg : c.callee = .value g) (hw : wantedV all d.ts N o = true) (hk : Keeps base d.st)
    (he : ev G d.ts g = some (.func fid [] [])) (ha : evs G d.ts c.args.toList = some args) (hX : X fid = none) (hs : Goes P X G (.call fid args) d.st (.val v st1))
    (h : DGo P X G base all N n0 (i + 1) l ⟨putD d.ts N o.dst v, st1, []⟩ f) : DGo P X G base all N n0 i (o :: l) d f := by
  obtain ⟨n, hn⟩ := hs.at
  refine d_chain (n := n) hpend (by rw [hx]; simp only [dkind, hg]) hw hk (fun m hm => ?_) h
  unfold stepV
  simp only [hx, ha, Option.bind_some, hg, he, callV, hX, List.nil_append, List.append_nil, hn m hm]

theorem d_known {c : Call} {g : Operand} {fid : FuncId} {b : Bool} (hpend : d.pend = []) (hx : o.op = .call c) (hg : c.callee = .value g) (hw : wantedV all d.ts N o = true) (hk : Keeps base d.st)
    (he : ev G d.ts g = some (.func fid [] [])) (ha : evs G d.ts c.args.toList = some []) (hX : X fid = some (.known b))
    (h : DGo P X G base all N n0 (i + 1) l ⟨putD d.ts N o.dst (.bool b), d.st, []⟩ f) : DGo P X G base all N n0 i (o :: l) d f := by
  refine d_chain (n := 0) hpend (by rw [hx]; simp only [dkind, hg]) hw hk (fun m hm => ?_) h
  unfold stepV
  simp only [hx, ha, Option.bind_some, hg, he, callV, hX, List.nil_append, List.append_nil, extV]

theorem dynV_true {self : Job → St → Option Out} {ms : T Nat} {v : V} : ∀ {sts : List (Nat × St)} {own : Bool}, (∀ q ∈ sts, dynV.test P X G self o d v q.2 = true) → dynV P X G self ms i o d v own sts = true
  | [], _, _ => rfl
  | (p, s) :: sts, own, h => by
    have h1 := h (p, s) List.mem_cons_self
    simp only at h1
    have h2 : ∀ own, dynV P X G self ms i o d v own sts = true := fun own => dynV_true fun q hq => h q (List.mem_cons_of_mem _ hq)
    simp only [dynV, h1, h2]
    cases Nat.blt p i <;> cases waits ms p i <;> cases waits ms i p <;> cases own <;> rfl

theorem stages_keep : ∀ (l : List Oper) (i : Nat) (rs : List (DS × V)) (f : DS), Keeps base f.st → (∀ r ∈ rs, Keeps base r.1.st) → ∀ q ∈ stagesV P i l rs f, Keeps base q.2
  | [], i, rs, f, hf, _, q, hq => by simp only [stagesV, List.mem_singleton] at hq; rw [hq]; exact hf
  | o :: l, i, [], f, hf, _, q, hq => by simp only [stagesV, List.mem_singleton] at hq; rw [hq]; exact hf
  | o :: l, i, r :: rs, f, hf, hr, q, hq => by
    have ih := stages_keep l (i + 1) rs f hf fun r' h => hr r' (List.mem_cons_of_mem _ h)
    simp only [stagesV] at hq
    split at hq
    · rcases List.mem_cons.1 hq with rfl | hq
      · exact hr r List.mem_cons_self
      · exact ih q hq
    · exact ih q hq

theorem dynAll_true {self : Job → St → Option Out} {ms : T Nat} {sts : List (Nat × St)} (hst : ∀ q ∈ sts, Keeps base q.2) : ∀ {l : List Oper} {i : Nat} {rs : List (DS × V)},
    (∀ (k : Nat) (o : Oper) (r : DS × V), l[k]? = some o → rs[k]? = some r → dkind P o.op = .quiet → wantedV all r.1.ts N o = true → Stab P X G base r.1.ts o r.2) → dynAll P X G self all N ms sts i l rs = true
  | [], _, _, _ => rfl
  | _ :: _, _, [], _ => rfl
  | o :: l, i, (d, v) :: rs, h => by
    simp only [dynAll, Bool.and_eq_true]
    refine ⟨?_, dynAll_true hst fun k o' r h1 h2 => h (k + 1) o' r h1 h2⟩
    split
    · rename_i e1 e2
      refine dynV_true fun q hq => ?_
      unfold dynV.test
      rw [h 0 o (d, v) rfl rfl e1 e2 self q.2 (hst q hq)]
      exact V.same_refl v
    · rfl

theorem goes_draw {fr : Fr} {st : St} {id : Nat} {ops : Array Oper} {ms : T Nat} {f : DS} (hs : dstat P ops 0 ops.toList .leaf [] = some ms)
    (h : DGo P X G ⟨st.h, st.n + ops.toList.length⟩ ops fr.N st.n 0 ops.toList ⟨fr.ts, ⟨st.h, st.n + ops.toList.length⟩, []⟩ f) : Goes P X G (.code (.region id ops true) fr) st (.code .normal { fr with ts := f.ts } (layAll f.st f.pend)) := by
  obtain ⟨n, rs, h1, h2, h3, h4, h5⟩ := h
  refine ⟨n + 1, ?_⟩
  change body P X G (run P X G n) _ _ = _
  simp only [body, drawV, hs, Option.bind_some, h1]
  rw [dynAll_true (base := ⟨st.h, st.n + ops.toList.length⟩) (stages_keep _ _ _ _ h3 h4) h5]

theorem goes_draw0 {fr : Fr} {st st1 : St} {ts' : T V} {id : Nat} {ops : Array Oper} {ms : T Nat} (hs : dstat P ops 0 ops.toList .leaf [] = some ms)
    (h : DGo P X G ⟨st.h, st.n + ops.toList.length⟩ ops fr.N st.n 0 ops.toList ⟨fr.ts, ⟨st.h, st.n + ops.toList.length⟩, []⟩ ⟨ts', st1, []⟩) : Goes P X G (.code (.region id ops true) fr) st (.code .normal { fr with ts := ts' } st1) :=
  goes_draw hs h
end
end Go.Vex
