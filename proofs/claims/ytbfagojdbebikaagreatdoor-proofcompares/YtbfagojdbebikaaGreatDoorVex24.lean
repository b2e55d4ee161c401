/- VEX, part 24: what the evaluator yields, the model does. Generic in the program. -/
import Derived.Test.YtbfagojdbebikaaGreatDoorVex23
namespace Go.Vex
open Go Go.RowKit

/-- The least number of a kind, if there is one. -/
theorem least_exists {p : Nat → Prop} : ∀ n, p n → ∃ k, p k ∧ ∀ j, p j → k ≤ j := by
  intro n
  induction n using Nat.strongRecOn with
  | _ n ih =>
    intro hn
    by_cases h : ∃ m, m < n ∧ p m
    · obtain ⟨m, h1, h2⟩ := h
      exact ih m h1 h2
    · exact ⟨n, hn, fun j hj => Nat.le_of_not_lt fun hlt => h ⟨j, hlt, hj⟩⟩
open Classical in
noncomputable def least (p : Nat → Prop) : Nat := if h : ∃ k, p k ∧ ∀ j, p j → k ≤ j then Classical.choose h else 0
theorem least_spec {p : Nat → Prop} {n : Nat} (h : p n) : p (least p) ∧ ∀ j, p j → least p ≤ j := by
  have hx := least_exists n h
  unfold least
  rw [dif_pos hx]
  exact Classical.choose_spec hx

section
variable {P : Program} {X : FuncId → Option Ext} {G B : Nat} {ρ : Rho} {st : St} {w : World}

theorem CodePost.then {rb : Option Nat} {ρ' : Rho} {st' : St} {w' : World} (s : Step P G B ρ st w ρ' st' w') {e : Ex} {fr' : Fr} {st'' : St} {ex : Exit} {a' : Act} {w'' : World}
    (h : CodePost P G B ρ' st' w' rb e fr' st'' ex a' w'') : CodePost P G B ρ st w rb e fr' st'' ex a' w'' :=
  ⟨h.1, h.2.elim fun ρ2 h2 => ⟨ρ2, s.trans h2.1, h2.2⟩⟩

theorem CodePost.normal {rb : Option Nat} {fr' : Fr} {st' : St} {ex : Exit} {a' : Act} {w' : World} (h : CodePost P G B ρ st w rb .normal fr' st' ex a' w') :
    ex = .normal ∧ ∃ ρ', Step P G B ρ st w ρ' st' w' ∧ FrRel ρ' fr' rb a' := by
  refine ⟨?_, h.2⟩
  have := h.1
  cases ex <;> simp_all [ExRel]

theorem ExRel.ne {e : Ex} {ex : Exit} (h : ExRel e ex) (hn : e ≠ .normal) : ex ≠ .normal := by
  cases e <;> cases ex <;> simp_all [ExRel]

theorem then_of {K : Act → World → Prop} {Q : Exit → Act → World → Prop} {ex : Exit} {a : Act} {w : World} (h1 : ex = .normal → K a w) (h2 : ex ≠ .normal → Q ex a w) : Exit.then K Q ex a w := by
  cases ex with
  | normal => exact h1 rfl
  | _ => exact h2 (by simp)

/-- Code, by the fuel. -/
theorem code_sound (fit : Fit P X G) {n : Nat} (ih : ∀ j, j < n → Sound P G B (run P X G j)) {c : Code} {fr : Fr} {e : Ex} {fr' : Fr} {st' : St} (hv : run P X G n (.code c fr) st = some (.code e fr' st')) {a : Act} {rb : Option Nat} {m : Nat}
    (h : HRep P G B ρ st w) (hf : FrRel ρ fr rb a) : c.wpIn (FF rb) m P (CodePost P G B ρ st w rb e fr' st') a w := by
  cases n with
  | zero => cases hv
  | succ n =>
    have snd := ih n (Nat.lt_succ_self n)
    have hrun := hv
    change body P X G (run P X G n) (.code c fr) st = _ at hv
    cases c <;> simp only [body] at hv
    case skip =>
      simp only [Option.some.injEq, Out.code.injEq] at hv
      obtain ⟨rfl, rfl, rfl⟩ := hv
      exact wpIn_skip ⟨trivial, ρ, .refl h, hf⟩
    case label l =>
      simp only [Option.some.injEq, Out.code.injEq] at hv
      obtain ⟨rfl, rfl, rfl⟩ := hv
      exact wpIn_label ⟨trivial, ρ, .refl h, hf⟩
    case exit id =>
      simp only [Option.some.injEq, Out.code.injEq] at hv
      obtain ⟨rfl, rfl, rfl⟩ := hv
      exact wpIn_exit ⟨rfl, ρ, .refl h, hf⟩
    case ret =>
      simp only [Option.some.injEq, Out.code.injEq] at hv
      obtain ⟨rfl, rfl, rfl⟩ := hv
      exact wpIn_ret ⟨trivial, ρ, .refl h, hf⟩
    case seq x y =>
      split at hv
      · rename_i fr1 st1 h1
        refine wpIn_seq (wpIn_mono (snd.code h1 h hf) fun ex a1 w1 hq => ?_)
        obtain ⟨rfl, ρ1, s1, f1⟩ := hq.normal
        exact wpIn_mono (snd.code hv s1.rep f1) fun ex2 a2 w2 hq2 => hq2.then s1
      · rename_i hno
        refine wpIn_seq (wpIn_mono (snd.code hv h hf) fun ex a1 w1 hq => ?_)
        refine then_of (fun hex => ?_) fun _ => hq
        have : e ≠ .normal := fun he => hno _ _ (by rw [hv, he])
        exact absurd hex (hq.1.ne this)
    case cond g x y =>
      split at hv
      · rename_i hg
        have := ev_rel h hf.t hg
        exact wpIn_cond_true this (snd.code hv h hf)
      · rename_i hg
        have := ev_rel h hf.t hg
        exact wpIn_cond_false this (snd.code hv h hf)
      · cases hv
    case block id b =>
      split at hv
      · rename_i i fr1 st1 h1
        refine wpIn_block (wpIn_mono (snd.code h1 h hf) fun ex a1 w1 hq => ?_)
        have hex : ex = .exit i := by
          have := hq.1
          cases ex <;> simp_all [ExRel]
        subst hex
        cases hb : Nat.beq i id with
        | true =>
          rw [hb] at hv
          simp only [Option.some.injEq, Out.code.injEq] at hv
          obtain ⟨rfl, rfl, rfl⟩ := hv
          have := Nat.eq_of_beq_eq_true hb
          simp only [Exit.inBlock, this, if_true]
          exact ⟨trivial, hq.2⟩
        | false =>
          rw [hb] at hv
          simp only [Option.some.injEq, Out.code.injEq] at hv
          obtain ⟨rfl, rfl, rfl⟩ := hv
          have := Nat.ne_of_beq_eq_false hb
          simp only [Exit.inBlock, this, if_false]
          exact ⟨rfl, hq.2⟩
      · rename_i hno
        refine wpIn_block (wpIn_mono (snd.code hv h hf) fun ex a1 w1 hq => ?_)
        have : ∀ j, ex ≠ .exit j := fun j hj => by
          have hx := hq.1
          subst hj
          cases e <;> simp only [ExRel] at hx
          exact hno _ _ _ hv
        cases ex <;> first | exact hq | exact absurd rfl (this _)
    case loop b =>
      let J : Nat → Act → World → Prop := fun k a1 w1 => ∃ fr1 st1 ρ1, k ≤ n + 1 ∧ run P X G k (.code (.loop b) fr1) st1 = some (.code e fr' st') ∧ Step P G B ρ st w ρ1 st1 w1 ∧ FrRel ρ1 fr1 rb a1
      have hJ : J (n + 1) a w := ⟨fr, st, ρ, Nat.le_refl _, hrun, .refl h, hf⟩
      refine wpIn_loop (fun a1 w1 => ∃ k, J k a1 w1) (fun a1 w1 => least fun k => J k a1 w1) ⟨_, hJ⟩ fun a1 w1 ⟨k0, hk0⟩ => ?_
      obtain ⟨hk, hmin⟩ := least_spec (p := fun k => J k a1 w1) hk0
      generalize least (fun k => J k a1 w1) = k at hk hmin
      obtain ⟨fr1, st1, ρ1, hkn, hr, s1, f1⟩ := hk
      cases k with
      | zero => cases hr
      | succ k =>
        have sndk := ih k (by omega)
        change body P X G (run P X G k) (.code (.loop b) fr1) st1 = _ at hr
        simp only [body] at hr
        split at hr
        · rename_i fr2 st2 h2
          refine wpIn_mono (sndk.code h2 s1.rep f1) fun ex a2 w2 hq => ?_
          obtain ⟨rfl, ρ2, s2, f2⟩ := hq.normal
          have hJ2 : J k a2 w2 := ⟨fr2, st2, ρ2, by omega, hr, s1.trans s2, f2⟩
          exact ⟨⟨k, hJ2⟩, Nat.lt_succ_of_le ((least_spec (p := fun k => J k a2 w2) hJ2).2 k hJ2)⟩
        · rename_i hno
          refine wpIn_mono (sndk.code hr s1.rep f1) fun ex a2 w2 hq => ?_
          refine then_of (fun hex => ?_) fun _ => hq.then s1
          have : e ≠ .normal := fun he => hno _ _ (by rw [hr, he])
          exact absurd hex (hq.1.ne this)
    case region id ops draw =>
      split at hv
      · rename_i ts st1 h1
        simp only [Option.some.injEq, Out.code.injEq] at hv
        obtain ⟨rfl, rfl, rfl⟩ := hv
        have hfin : ∀ ρ' w' a', Step P G B ρ st w ρ' st1 w' → TRel ρ' ts fr.N a'.tmps → a'.defers = a.defers → CodePost P G B ρ st w rb .normal { fr with ts } st1 .normal a' w' := fun ρ' w' a' s t d =>
          ⟨trivial, ρ', s, ⟨t, by rw [d]; exact hf.d.mono s.le, (hf.mono s.le).r⟩⟩
        cases draw with
        | false =>
          refine wpIn_region ?_
          rw [List.range_eq_range', ← Array.length_toList]
          exact opsV_ok fit snd rb m ops.toList 0 (fun j => by rw [Nat.zero_add, Array.getElem?_toList]) h hf.t h1 hfin
        | true => exact drawV_ok fit snd rb m h hf.t h1 hfin
      · cases hv
    case rangeFunc g params assign b =>
      obtain ⟨gv, e1, hv⟩ := bind2 hv
      have hg := ev_rel h hf.t e1
      split at hv
      · rename_i f first captured
        obtain ⟨⟨dl, dm, st1⟩, e2, hv⟩ := bind2 hv
        obtain ⟨pv, qv, hx, hp, hq⟩ := hg
        simp only at hv
        split at hv
        · cases hv
        · split at hv
          · rename_i v2 st2 h2
            refine wpIn_rangeFunc fun fn _ => ?_
            obtain ⟨l, mark, w1, ρ1, r1, s1, ⟨L, hL, rfl⟩, hd⟩ := enter_ok h hf e2 fn params assign b
            obtain ⟨fn', hfn1, hfn2⟩ := snd.enters h2
            have hy : VRel ρ1 (V.yield st1.n) (Value.func (.yield L.blk) #[] #[]) := ⟨L, hL, rfl⟩
            have hargs : VRels ρ1 (first ++ [V.yield st1.n] ++ captured) (pv ++ [Value.func (.yield L.blk) #[] #[]] ++ qv) :=
              (((VRels.mono s1.le _ _ hp).append (VRels.cons hy .nil)).append (VRels.mono s1.le _ _ hq))
            refine ⟨L.blk, mark, w1, { target := .fn (.func f) qv.toArray, args := pv.toArray ++ #[.func (.yield L.blk) #[] #[]] }, w1, f, (pv ++ [Value.func (.yield L.blk) #[] #[]] ++ qv).toArray, w1, r1, ?_, fun _ _ => trivial, ?_, fun hd => (by cases hd), ?_⟩
            · simp only [resolve, hx, Deferred.ofValue, Sem.run_pure]
              simp [Act.eval]
            · simp only [invoke]
              rw [show pv.toArray ++ #[Value.func (.yield L.blk) #[] #[]] ++ qv.toArray = (pv ++ [Value.func (.yield L.blk) #[] #[]] ++ qv).toArray by simp]
              exact callFunc_enter fit hfn1 hfn2 _
            · refine CallsIn.mono (callsIn_FF (snd.call h2 s1.rep hargs)) fun en w3 he => ?_
              obtain ⟨r, ρ3, rfl, _, s3⟩ := he
              have hL3 := s3.le _ _ hL
              split at hv
              · rename_i s pend ts N ps as_ b_ d_ hobj
                obtain ⟨g1, rr, g2, g3, g4, _⟩ := s3.rep.loop hobj hL3
                have hnb : s ≠ .busy := fun hs => by subst hs; cases hv
                have hend := run_endLoop (P := P) g2 (by rw [g3]; exact hnb)
                have s4 : Step P G B ρ3 st2 w3 ρ3 (st2.set st1.n (.loop .exhausted pend ts N ps as_ b_ d_)) (w3.putObj L.blk (.loop { rr with state := .exhausted })) := by
                  have := Step.loop s3.rep hobj hL3 g2 (s' := .exhausted) (pd' := pend)
                  rw [← g4] at this ⊢
                  exact this
                refine ⟨_, _, hend, ?_⟩
                have hfr : FrRel ρ3 { fr with dm } rb { a with defers := mark ++ a.defers } := by
                  have := (hf.mono s1.le).mono s3.le
                  exact ⟨this.t, hd.mono s3.le, this.r⟩
                have hall := (s1.trans s3).trans s4
                cases hpd : pend with
                | none =>
                  rw [g4, hpd] at hall s4 ⊢
                  simp only
                  subst hpd
                  have hv' : some (Out.code .normal { fr with dm } (st2.set st1.n (.loop .exhausted none ts N ps as_ b_ d_))) = some (Out.code e fr' st') := by
                    cases s <;> first | exact hv | exact absurd rfl hnb
                  simp only [Option.some.injEq, Out.code.injEq] at hv'
                  obtain ⟨rfl, rfl, rfl⟩ := hv'
                  exact ⟨trivial, ρ3, hall, hfr⟩
                | some cc =>
                  rw [g4, hpd] at hall s4 ⊢
                  simp only
                  subst hpd
                  have hv' : run P X G n (.code cc { fr with dm }) (st2.set st1.n (.loop .exhausted (some cc) ts N ps as_ b_ d_)) = some (Out.code e fr' st') := by
                    cases s <;> first | exact hv | exact absurd rfl hnb
                  exact wpIn_mono (snd.code hv' s4.rep hfr) fun ex2 a2 w2 hq2 => hq2.then hall
              · cases hv
          · cases hv
      · cases hv
    all_goals cases hv

theorem run_sound (fit : Fit P X G) : ∀ n, Sound P G B (run P X G n) := by
  intro n
  induction n using Nat.strongRecOn with
  | _ n ih =>
    refine ⟨fun hv => fun h hf => code_sound fit ih hv h hf, ?_, ?_, ?_⟩
    · intro f args st v st' hv
      cases n with
      | zero => cases hv
      | succ n =>
        change body P X G (run P X G n) (.call f args) st = _ at hv
        simp only [body] at hv
        split at hv
        · rename_i fn hfn
          split at hv
          · rename_i c hc
            exact ⟨fn, hfn, by rw [hc]; rfl⟩
          · cases hv
        · cases hv
    · intro f args st v st' hv ρ w xs m h hx
      cases n with
      | zero => cases hv
      | succ n =>
        have snd := ih n (Nat.lt_succ_self n)
        change body P X G (run P X G n) (.call f args) st = _ at hv
        simp only [body] at hv
        split at hv
        · rename_i fn hfn
          split at hv
          · rename_i c hc
            split at hv
            · rename_i e fr st1 h1
              have hfr : FrRel ρ { ts := argsT .leaf 0 args, N := args.length + (fn.ntmps - args.length), dm := [], ro := none } none { tmps := xs.toArray ++ Array.replicate (fn.ntmps - xs.toArray.size) undef, defers := [] } :=
                ⟨args_rel hx fn.ntmps, rfl, rfl⟩
              refine callsIn_of_wp_marks hfn hc trivial ?_
              refine wpIn_mono (snd.code h1 h hfr) fun ex a1 w1 hq => ?_
              obtain ⟨hex, ρ1, s1, f1⟩ := hq
              have hne : (∀ i, e ≠ .exit i) ∧ (takeMarks st1 fr.dm).bind (fun st'' => (resultsV P fr.ts fr.N st'' fn.results.toList).bind fun vs =>
                    match vs with
                    | [v] => some (Out.val v st'')
                    | vs => some (Out.val (.tup vs) st'')) = some (Out.val v st') := by
                cases e with
                | exit i => cases hv
                | normal => exact ⟨by simp, hv⟩
                | ret => exact ⟨by simp, hv⟩
              obtain ⟨st2, t1, hv2⟩ := bind2 hne.2
              obtain ⟨vs, t2, hv3⟩ := bind2 hv2
              have hout : st2 = st' ∧ v = tupV vs := by
                split at hv3
                · simp only [Option.some.injEq, Out.val.injEq] at hv3
                  exact ⟨hv3.2, hv3.1.symm⟩
                · rename_i hno
                  simp only [Option.some.injEq, Out.val.injEq] at hv3
                  refine ⟨hv3.2, hv3.1.symm.trans ?_⟩
                  unfold tupV
                  split
                  · exact absurd rfl (hno _)
                  · rfl
              obtain ⟨rfl, hve⟩ := hout
              have hleave : LeavesInM Fence.wide m P fn a1.tmps (ValPost P G B ρ st w v st2) a1.defers .returning w1 :=
                leaves_ok fr.dm s1.rep f1.d t1 fun w2 s2 => by
                  obtain ⟨x, x1, x2⟩ := results_ok s2.rep f1.t t2
                  rw [← hve] at x2
                  exact ⟨x, x1, x, ρ1, rfl, x2, s1.trans s2⟩
              cases e with
              | exit i => exact absurd rfl (hne.1 i)
              | normal => cases ex <;> first | exact hleave | exact hex.elim
              | ret => cases ex <;> first | exact hleave | exact hex.elim
            · cases hv
          · cases hv
        · cases hv
    · intro l args st v st' hv ρ w xs m L h hx hL
      cases n with
      | zero => cases hv
      | succ n =>
        have snd := ih n (Nat.lt_succ_self n)
        change body P X G (run P X G n) (.yield l args) st = _ at hv
        simp only [body] at hv
        split at hv
        · rename_i pd ts N params assign b dl hobj
          obtain ⟨g1, r, g2, g3, g4, g5, g6, g7, g8, D, g9, g10⟩ := h.loop hobj hL
          split at hv
          · rename_i hlen
            have hlen := Nat.eq_of_beq_eq_true hlen
            have hsz : xs.toArray.size = r.params.size := by rw [List.size_toArray, hx.length, hlen, ← g6, Array.length_toList]
            refine ⟨_, _, _, _, run_yield (P := P) g2 hsz, ?_⟩
            split at hv
            · rename_i fr1 st1 h1
              have htm : (r.params.zip xs.toArray).foldl (fun tmps (p : Tmp × Value) => tmps.setIfInBounds p.1 p.2) r.tmps = ((params.zip xs).foldl (fun tmps (p : Tmp × Value) => tmps.setIfInBounds p.1 p.2) r.tmps) := by
                rw [← Array.foldl_toList, Array.toList_zip, g6]
              have hfr : FrRel ρ { ts := putAll N ts params args, N, dm := [], ro := some l } (some L.blk) { tmps := (r.params.zip xs.toArray).foldl (fun tmps (p : Tmp × Value) => tmps.setIfInBounds p.1 p.2) r.tmps, defers := [] } :=
                ⟨by rw [htm]; exact putAll_rel params args xs ts r.tmps hlen.symm hx g5, rfl, L, hL, rfl⟩
              refine roundIn_of_wpIn trivial ?_
              rw [← g7] at h1
              refine wpIn_mono (snd.code (rb := some L.blk) h1 h hfr) fun ex a1 w1 hq => ?_
              obtain ⟨rfl, ρ1, s1, f1⟩ := hq.normal
              have hL1 := s1.le _ _ hL
              split at hv
              · rename_i pd1 ts1 N1 ps1 as1 b1 d1 hdm hobj1
                obtain ⟨_, r1, k2, k3, _⟩ := s1.rep.loop hobj1 hL1
                have s2 := Step.loop s1.rep hobj1 hL1 k2 (s' := .busy) (pd' := pd1)
                have k4 : r1.pending = pd1 := by
                  obtain ⟨_, r1', k2', _, k4', _⟩ := s1.rep.loop hobj1 hL1
                  obtain rfl : r1 = r1' := by rw [k2] at k2'; simpa using k2'
                  exact k4'
                have hbr := run_beginRound (P := P) k2 k3
                have hweq : ({ r1 with state := .busy } : Loop) = { r1 with state := .busy, pending := pd1 } := by rw [← k4]
                rw [hweq] at hbr
                refine ⟨_, hbr, ?_⟩
                split at hv
                · rename_i e fr2 st2 h2
                  rw [← g8] at h2
                  refine wpIn_mono (snd.code (rb := some L.blk) h2 s2.rep f1) fun ex a2 w2 hq2 => ?_
                  obtain ⟨hex, ρ2, s3, f2⟩ := hq2
                  have hL2 := s3.le _ _ hL1
                  have sall := (s1.trans s2).trans s3
                  split at hv
                  · rename_i s2_ pd2 ts2 N2 ps2 as2 b2 d2 hdm2 hobj2
                    obtain ⟨_, r2, q2, _⟩ := s3.rep.loop hobj2 hL2
                    cases e with
                    | normal =>
                      simp only [Option.some.injEq, Out.val.injEq] at hv
                      obtain ⟨rfl, rfl⟩ := hv
                      have he := run_endRound (P := P) none q2
                      have s4 := Step.loop s3.rep hobj2 hL2 q2 (s' := .ready) (pd' := none)
                      cases ex <;> first | exact hex.elim | skip
                      exact ⟨_, _, he, _, ρ2, rfl, rfl, sall.trans s4⟩
                    | ret =>
                      simp only [Option.some.injEq, Out.val.injEq] at hv
                      obtain ⟨rfl, rfl⟩ := hv
                      have he := run_endRound (P := P) (some .ret) q2
                      have s4 := Step.loop s3.rep hobj2 hL2 q2 (s' := .done) (pd' := some .ret)
                      cases ex <;> first | exact hex.elim | skip
                      exact ⟨_, _, he, _, ρ2, rfl, rfl, sall.trans s4⟩
                    | exit id =>
                      simp only [Option.some.injEq, Out.val.injEq] at hv
                      obtain ⟨rfl, rfl⟩ := hv
                      have he := run_endRound (P := P) (some (.exit id)) q2
                      have s4 := Step.loop s3.rep hobj2 hL2 q2 (s' := .done) (pd' := some (.exit id))
                      cases ex <;> first | exact hex.elim | skip
                      have hid : id = _ := hex
                      subst hid
                      exact ⟨_, _, he, _, ρ2, rfl, rfl, sall.trans s4⟩
                  · cases hv
                · cases hv
              · cases hv
            · cases hv
          · cases hv
        · cases hv
end
end Go.Vex
