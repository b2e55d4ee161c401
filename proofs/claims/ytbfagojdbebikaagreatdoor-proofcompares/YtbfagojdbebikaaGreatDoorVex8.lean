/- VEX, part 8: conversions, maps, and all operations that call nothing. Generic in the program. -/
import Derived.Test.YtbfagojdbebikaaGreatDoorVex7
namespace Go.Vex
open Go Go.RowKit

section
variable {P : Program} {G B : Nat} {ρ : Rho} {st : St} {w : World}

theorem HRep.shape (h : HRep P G B ρ st w) {l : Nat} {cs : List V} {t : TypeId} {L : Loc} (hl : st.h.get l = some (.cells cs t .exact)) (hL : ρ l = some L) :
    w.shape? L.blk = some (t, cs.length) ∧ L.off = 0 := by
  obtain ⟨L', hL', r⟩ := h.obj l _ hl
  obtain rfl : L' = L := Option.some.inj (hL'.symm.trans hL)
  obtain ⟨_, c, fz, h2, _, _, h5, _⟩ := r
  obtain ⟨h6, h7⟩ := h5 rfl
  exact ⟨by simp [World.shape?, h2, h7], h6⟩

theorem convV_ok (h : HRep P G B ρ st w) {s d : TypeId} {a v : V} {x : Value} (hv : convV P s d a st = some v) (hx : VRel ρ a x) : ∃ r, (convert s d x).run P w = .ok r w ∧ VRel ρ v r := by
  unfold convV at hv
  split at hv
  · rename_i u k j n hs hd
    cases hx
    simp only [Option.some.injEq] at hv
    subst hv
    exact ⟨_, by simp [convert, run_und hs, run_und hd, Conv.intToInt], rfl⟩
  · rename_i u b hs hd
    obtain ⟨y, rfl, hy⟩ := hx
    simp only [Option.some.injEq] at hv
    subst hv
    refine ⟨.string y, ?_, y, rfl, hy⟩
    unfold convert
    cases u <;> simp [run_und hs, run_und hd]
  · rename_i t l off hs hd
    obtain ⟨L, hL, rfl⟩ := hx
    split at hv
    · rename_i cs ty sz hl hsz
      split at hv
      · rename_i hlt
        have hlt : off < cs.length := Nat.le_of_ble_eq_true hlt
        simp only [Option.some.injEq] at hv
        subst hv
        obtain ⟨hsh, hoff⟩ := h.shape hl hL
        refine ⟨_, ?_, L, hL, rfl⟩
        have hc : convert s d (.pointer (some (L.at off))) = convert s d (.pointer (some (L.at off))) := rfl
        have hnot : ¬ (cs.length ≤ L.off + off) := by omega
        simp [convert, run_und hs, run_und hd, Conv.unsafePointer, Conv.seenAt, viewAt, cellsIn, Loc.at, hsh, run_size hsz, hnot]
      · cases hv
    · cases hv
  · rename_i u l off hs hd
    obtain ⟨L, hL, rfl⟩ := hx
    split at hv
    · rename_i cs ty sz hl hsz
      split at hv
      · rename_i hla
        simp only [Option.some.injEq] at hv
        subst hv
        obtain ⟨hsh, hoff⟩ := h.shape hl hL
        refine ⟨_, ?_, L, hL, rfl⟩
        simp [convert, run_und hs, run_und hd, Conv.unsafePointer, Conv.seenAt, viewAt, Loc.at, hsh, run_size hsz, variablesAt, hoff, hla]
      · cases hv
    · cases hv
  · cases hv

theorem push_modify (hp : Array Obj) (o : Obj) (f : Obj → Obj) : (hp.push o).modify hp.size f = hp.push (f o) := by
  apply Array.ext_getElem?
  intro i
  rw [Array.getElem?_modify]
  by_cases hi : hp.size = i
  · subst hi; simp
  · rw [if_neg hi, Array.getElem?_push, Array.getElem?_push, if_neg (Ne.symm hi), if_neg (Ne.symm hi)]

theorem cut_cap (need old : Nat) (e : TypeId) (n : Nat) : need ≤ (Question.appendCap need old e).cut n := by
  simp only [Question.cut]; exact Nat.le_add_right _ _

theorem bytes_ok (h : HRep P G B ρ st w) {s d e : TypeId} {D : TypeDesc} {b : List Nat} {x : Value} (hs : P.underlying s = some D) (hd : P.underlying d = some (.slice e)) (he : P.underlying e = some (.int .u8)) (hsz : sizeV P e = some 1)
    (hx : VRel ρ (.str b) x) :
    VOK P G B ρ st w (convert s d x) (.slice (st.new (.cells (b.map fun (n : Nat) => V.int .u8 (n : Int)) e .grown)).1 0 b.length (.u 1)) (st.new (.cells (b.map fun (n : Nat) => V.int .u8 (n : Int)) e .grown)).2 := by
  obtain ⟨y, rfl, hy⟩ := hx
  have hlen : y.size = b.length := by rw [← hy]; simp
  generalize hcap : (Question.appendCap y.size 0 e).cut (w.tape w.drawn (.appendCap y.size 0 e)) = cap
  have hcl : y.size ≤ cap := hcap ▸ cut_cap _ _ _ _
  have hd1 := h.drew (w.drawn + 1)
  have hgrow := new_cells hd1 (cs := b.map fun (n : Nat) => V.int .u8 (n : Int)) (t := e) (kd := .grown) (c := (y.data.map fun b => Value.int .u8 b.toNat) ++ Array.replicate (cap - y.size) (.int .u8 0)) (es := 1)
    (by simp) (by simp) (fun _ => ⟨hsz, by simp; omega⟩) (fun i v hi => by
      rw [List.getElem?_map] at hi
      have hib : i < b.length := by
        by_cases hc : i < b.length
        · exact hc
        · rw [List.getElem?_eq_none (by omega)] at hi; simp at hi
      rw [List.getElem?_eq_getElem hib] at hi
      simp only [Option.map_some, Option.some.injEq] at hi
      subst hi
      refine ⟨.int .u8 (b[i] : Int), ?_, rfl⟩
      have hiy : i < y.data.size := by rw [← hlen] at hib; exact hib
      rw [Array.getElem?_append_left (by simpa using hiy)]
      have : b[i] = y.data[i].toNat := by
        have h1 : b[i]? = (y.data.toList.map UInt8.toNat)[i]? := by rw [hy]
        rw [List.getElem?_eq_getElem hib, List.getElem?_map, Array.getElem?_toList, Array.getElem?_eq_getElem hiy] at h1
        simpa using h1
      rw [Array.getElem?_map, Array.getElem?_eq_getElem hiy, this]
      rfl) (cap, cap + 1) (by
        intro i hi hh
        simp at hi
        have : y.data.size = y.size := rfl
        simp at hh
        omega)
  refine ⟨.slice (some ⟨w.heap.size, 0, none⟩) y.size cap, _, _, ?_, ?_, (Step.drew h (w.drawn + 1)).trans hgrow⟩
  · unfold convert
    have hrun : (Conv.stringToBytes e y).run P w = .ok (.slice (some ⟨w.heap.size, 0, none⟩) y.size cap) { w with drawn := w.drawn + 1, heap := w.heap.push (.cells ((y.data.map fun b => Value.int .u8 b.toNat) ++ Array.replicate (cap - y.size) (.int .u8 0)) e (cap, cap + 1)) } := by
      have hsize : y.size + (cap - y.size) = cap := by omega
      simp only [Conv.stringToBytes, Sem.run_bind, run_choose, Question.forced, Bool.false_eq_true, if_false, Result.andThen_ok, hcap, newRow, run_newObj, Sem.run_pure, markStringish, run_shape]
      simp [World.shape?, World.freeze, push_modify, hsize]
    cases D <;> simp only [Sem.run_bind, run_und hs, run_und hd, run_und he, Result.andThen_ok, hrun]
  · refine ⟨⟨w.heap.size, 0, cap, 1⟩, ⟨w.heap.size, 0, none⟩, cap, ⟨?_, rfl⟩, by omega, by simp, fun _ => rfl, by rw [hlen]⟩
    have : y.data.size = y.size := rfl
    simp [St.new, this]
    omega

/-! ### Maps -/
theorem run_getObj {r : Nat} {o : Obj} (h : w.heap[r]? = some o) (hc : ∀ c t f, o ≠ .cells c t f) : (getObj r).run P w = .ok o w := by
  unfold getObj
  cases o <;> first
    | exact absurd rfl (hc _ _ _)
    | simp only [Sem.run, h]
theorem run_setObj {r : Nat} {o o' : Obj} (h : w.heap[r]? = some o) (hc : ∀ c t f, o ≠ .cells c t f) : (setObj r o').run P w = .ok () { w with heap := w.heap.setIfInBounds r o' } := by
  unfold setObj
  cases o <;> first
    | exact absurd rfl (hc _ _ _)
    | simp only [Sem.run, h]

theorem run_checkKey {t : TypeId} {d : TypeDesc} {k : V} {x : Value} (ht : P.underlying t = some d) (hk : plainKey d k = true) (hx : VRel ρ k x) (e : Bool) (n : Nat) : (Instr.checkKey e (n + 1) t x).run P w = .ok () w := by
  unfold plainKey at hk
  split at hk
  · cases hx; rw [Instr.checkKey]; simp only [Sem.run_bind, run_und ht, Result.andThen_ok, Sem.run_pure]
  · obtain ⟨b, rfl, _⟩ := hx; rw [Instr.checkKey]; simp only [Sem.run_bind, run_und ht, Result.andThen_ok, Sem.run_pure]
  · cases hx; rw [Instr.checkKey]; simp only [Sem.run_bind, run_und ht, Result.andThen_ok, Sem.run_pure]
  · cases hk

theorem sameKey_ok {d : TypeDesc} {a b : V} {x y : Value} {r : Bool} (h : sameKey d a b = some r) (hx : VRel ρ a x) (hy : VRel ρ b y) : Instr.sameNow d x y = some r := by
  unfold sameKey at h
  split at h
  · cases hx; cases hy; exact h
  · obtain ⟨s, rfl, hs⟩ := hx
    obtain ⟨u, rfl, hu⟩ := hy
    simp only [Option.some.injEq] at h
    subst h
    simp only [Instr.sameNow, Option.some.injEq]
    rw [beq_toListBytes, ByteArray.toList_eq, ByteArray.toList_eq, beq_map, hs, hu]
  · cases hx; cases hy; exact h
  · cases h

def FRelV (ρ : Rho) : Option (Nat × V) → Option (Nat × Value) → Prop
  | none, none => True
  | some (j, v), some (i, x) => j = i ∧ VRel ρ v x
  | _, _ => False
theorem findV_ok {d : TypeDesc} {k : V} {K : Value} (hk : VRel ρ k K) : ∀ {es : List (V × V × Nat)} {ms : List MapEntry} {i : Nat} {r : Option (Nat × V)}, findV d k es i = some r → ERel ρ es ms →
    ∃ r', Instr.findNow d K ms i = some r' ∧ FRelV ρ r r' ∧ (∀ j x, r' = some (j, x) → i ≤ j ∧ ∃ m, ms[j - i]? = some m ∧ Instr.sameNow d K m.key = some true)
  | [], ms, i, r, h, he => by
    obtain rfl : ms = [] := he
    simp only [findV, Option.some.injEq] at h
    subst h
    exact ⟨none, rfl, trivial, by intro j x h; cases h⟩
  | e :: es, ms, i, r, h, he => by
    obtain ⟨m, ms', rfl, h1, h2, h3, h4⟩ := he
    simp only [findV] at h
    cases hs : sameKey d k e.1 with
    | none => simp [hs] at h
    | some q =>
      have hn := sameKey_ok hs hk h1
      cases q with
      | true =>
        simp only [hs, Option.some.injEq] at h
        subst h
        refine ⟨some (i, m.val), by simp only [Instr.findNow, hn], ⟨rfl, h2⟩, ?_⟩
        intro j x hj
        simp only [Option.some.injEq, Prod.mk.injEq] at hj
        obtain ⟨rfl, rfl⟩ := hj
        exact ⟨Nat.le_refl _, m, by simp, hn⟩
      | false =>
        simp only [hs] at h
        obtain ⟨r', g1, g2, g3⟩ := findV_ok hk h h4
        refine ⟨r', by simp only [Instr.findNow, hn, g1], g2, ?_⟩
        intro j x hj
        obtain ⟨p1, m', p2, p3⟩ := g3 j x hj
        refine ⟨by omega, m', ?_, p3⟩
        rw [show j - i = (j - (i + 1)) + 1 by omega]
        simpa using p2

theorem keep_key {d : TypeDesc} {K K' : Value} (h : Instr.sameNow d K K' = some true) : Instr.sameBits 10000 K' K = true := by
  unfold Instr.sameNow at h
  split at h
  · split at h
    · rename_i hk; subst hk
      simp only [Option.some.injEq, beq_iff_eq] at h
      subst h
      simp [Instr.sameBits]
    · cases h
  · rename_i a b
    simp only [Option.some.injEq] at h
    rw [beq_toListBytes, ByteArray.toList_eq, ByteArray.toList_eq] at h
    simp only [Instr.sameBits]
    rw [beq_toListBytes, ByteArray.toList_eq, ByteArray.toList_eq, beq_iff_eq]
    exact (beq_iff_eq.1 h).symm
  · simp only [Option.some.injEq, beq_iff_eq] at h; subst h; simp [Instr.sameBits]
  · cases h

theorem ERel.length : ∀ {es : List (V × V × Nat)} {ms : List MapEntry}, ERel ρ es ms → ms.length = es.length
  | [], ms, h => by obtain rfl : ms = [] := h; rfl
  | _ :: es, _, ⟨_, _, rfl, _, _, _, h⟩ => by simp [ERel.length h]
theorem ERel.snoc : ∀ {es : List (V × V × Nat)} {ms : List MapEntry}, ERel ρ es ms → ∀ {e : V × V × Nat} {m : MapEntry}, VRel ρ e.1 m.key → VRel ρ e.2.1 m.val → m.born = e.2.2 → ERel ρ (es ++ [e]) (ms ++ [m])
  | [], ms, h, e, m, a, b, c => by obtain rfl : ms = [] := h; exact ⟨m, [], rfl, a, b, c, rfl⟩
  | _ :: es, _, ⟨x, xs, rfl, h1, h2, h3, h⟩, e, m, a, b, c => ⟨x, xs ++ [m], rfl, h1, h2, h3, ERel.snoc h a b c⟩
theorem ERel.set {k v : V} {K X : Value} (hk : VRel ρ k K) (hv : VRel ρ v X) : ∀ {es : List (V × V × Nat)} {ms : List MapEntry} (i : Nat), ERel ρ es ms → ERel ρ (setVal es i k v) (ms.modify i fun e => { e with key := K, val := X })
  | [], ms, i, h => by obtain rfl : ms = [] := h; cases i <;> rfl
  | e :: es, _, 0, ⟨m, ms, rfl, h1, h2, h3, h⟩ => ⟨{ m with key := K, val := X }, ms, rfl, hk, hv, h3, h⟩
  | e :: es, _, i + 1, ⟨m, ms, rfl, h1, h2, h3, h⟩ => ⟨m, _, rfl, h1, h2, h3, ERel.set hk hv i h⟩

theorem lookV_ok (h : HRep P G B ρ st w) {d : TypeDesc} {m k : V} {M K : Value} (hm : VRel ρ m M) (hk : VRel ρ k K) {r : Option (Nat × V)} (hr : lookV d k m st = some r) :
    ∃ (ms : Array MapEntry) (r' : Option (Nat × Value)), Instr.findNow d K ms.toList 0 = some r' ∧ FRelV ρ r r' ∧
      ((M = .map none ∧ ms = #[]) ∨ ∃ b clock, M = .map (some b) ∧ w.heap[b]? = some (.map ms clock)) := by
  cases m <;> simp only [lookV] at hr <;> try (cases hr; done)
  case nmap =>
    cases hm
    simp only [Option.some.injEq] at hr
    subst hr
    exact ⟨#[], none, rfl, trivial, .inl ⟨rfl, rfl⟩⟩
  case map l =>
    obtain ⟨L, hL, rfl⟩ := hm
    cases eh : st.h.get l with
    | none => simp [eh] at hr
    | some o =>
      cases o <;> simp only [eh] at hr <;> try (cases hr; done)
      case map es clock =>
        obtain ⟨L', hL', r1⟩ := h.obj l _ eh
        obtain rfl : L' = L := Option.some.inj (hL'.symm.trans hL)
        obtain ⟨_, ms, h2, h3⟩ := r1
        obtain ⟨r', g1, g2, _⟩ := findV_ok hk hr h3
        exact ⟨ms, r', g1, g2, .inr ⟨_, clock, rfl, h2⟩⟩

theorem lookup_ok (h : HRep P G B ρ st w) {t kt et : TypeId} {d : TypeDesc} {m k v : V} {M K : Value} {ok : Bool} (ht : P.underlying t = some (.map kt et)) (hkt : P.underlying kt = some d) (hpk : plainKey d k = true)
    (hm : VRel ρ m M) (hk : VRel ρ k K) {r : Option (Nat × V)} (hr : lookV d k m st = some r) (hv : lookR P et ok r = some v) :
    ∃ x, (Instr.lookup t M K ok).run P w = .ok x w ∧ VRel ρ v x := by
  obtain ⟨ms, r', g1, g2, g3⟩ := lookV_ok h hm hk hr
  have hck := fun e => run_checkKey (w := w) hkt hpk hk e 9999
  have hfk : (Instr.findKey kt K ms.toList).run P w = .ok r' w := by
    simp only [Instr.findKey, Sem.run_bind, run_und hkt, Result.andThen_ok, g1, Sem.run_pure]
  cases r with
  | none =>
    cases r' with
    | some p => obtain ⟨_, _⟩ := p; exact g2.elim
    | none =>
      simp only [lookR] at hv
      cases e : zeroV P et with
      | none => simp [e] at hv
      | some z =>
        obtain ⟨zx, z1, z2⟩ := run_zero (w := w) e
        simp [e] at hv
        subst hv
        refine ⟨if ok then .tuple #[zx, .bool false] else zx, ?_, ?_⟩
        · rcases g3 with ⟨rfl, rfl⟩ | ⟨b, clock, rfl, hb⟩
          · simp only [Instr.lookup, Sem.run_bind, run_und ht, Result.andThen_ok, hck, hfk, z1, Sem.run_pure]
          · simp only [Instr.lookup, Sem.run_bind, run_und ht, Result.andThen_ok, run_getObj hb (by intros; simp), hck, hfk, z1, Sem.run_pure]
        · cases ok
          · exact z2 ρ
          · exact ⟨[zx, .bool false], rfl, _, _, rfl, z2 ρ, _, _, rfl, rfl, rfl⟩
  | some p =>
    obtain ⟨j, u⟩ := p
    cases r' with
    | none => exact g2.elim
    | some q =>
      obtain ⟨i, x⟩ := q
      simp only [lookR, Option.some.injEq] at hv
      subst hv
      refine ⟨if ok then .tuple #[x, .bool true] else x, ?_, ?_⟩
      · rcases g3 with ⟨rfl, rfl⟩ | ⟨b, clock, rfl, hb⟩
        · simp only [Instr.lookup, Sem.run_bind, run_und ht, Result.andThen_ok, hck, hfk, Sem.run_pure]
        · simp only [Instr.lookup, Sem.run_bind, run_und ht, Result.andThen_ok, run_getObj hb (by intros; simp), hck, hfk, Sem.run_pure]
      · cases ok
        · exact g2.2
        · exact ⟨[x, .bool true], rfl, _, _, rfl, g2.2, _, _, rfl, rfl, rfl⟩

theorem update_ok (h : HRep P G B ρ st w) {t kt et : TypeId} {d : TypeDesc} {l : Nat} {k v : V} {K X M : Value} {es : List (V × V × Nat)} {clock : Nat} (ht : P.underlying t = some (.map kt et)) (hkt : P.underlying kt = some d) (hpk : plainKey d k = true)
    (hm : VRel ρ (.map l) M) (hk : VRel ρ k K) (hx : VRel ρ v X) (hl : st.h.get l = some (.map es clock)) {r : Option (Nat × V)} (hr : findV d k es 0 = some r) :
    ∃ w', (Instr.mapUpdate t M K X).run P w = .ok () w' ∧
      Step P G B ρ st w ρ (updV st l es clock k v r) w' := by
  obtain ⟨L, hL, rfl⟩ := hm
  obtain ⟨L', hL', r1⟩ := h.obj l _ hl
  obtain rfl : L' = L := Option.some.inj (hL'.symm.trans hL)
  obtain ⟨hB, ms, h2, h3⟩ := r1
  obtain ⟨r', g1, g2, g3⟩ := findV_ok hk hr h3
  have hck := run_checkKey (w := w) hkt hpk hk false 9999
  have hfk : (Instr.findKey kt K ms.toList).run P w = .ok r' w := by
    simp only [Instr.findKey, Sem.run_bind, run_und hkt, Result.andThen_ok, g1, Sem.run_pure]
  have hblk : L'.blk < w.heap.size := (Array.getElem?_eq_some_iff.1 h2).1
  have hgo := run_getObj (P := P) h2 (by intros; simp)
  cases r with
  | none =>
    cases r' with
    | some p => obtain ⟨_, _⟩ := p; exact g2.elim
    | none =>
      refine ⟨_, ?_, Step.write h hl rfl hL (O := .map (ms.push { key := K, val := X, born := clock }) (clock + 1)) ?_⟩
      · simp only [Instr.mapUpdate, Sem.run_bind, run_und ht, Result.andThen_ok, hgo, hck, hfk, run_setObj h2 (by intros; simp)]
      · refine ⟨hB, _, by simp [Array.getElem?_setIfInBounds_self_of_lt hblk]; rfl, ?_⟩
        rw [Array.toList_push]
        exact h3.snoc hk hx rfl
  | some p =>
    obtain ⟨j, u⟩ := p
    cases r' with
    | none => exact g2.elim
    | some q =>
      obtain ⟨i, x⟩ := q
      obtain ⟨rfl, _⟩ := g2
      obtain ⟨_, m, m1, m2⟩ := g3 j x rfl
      rw [Nat.sub_zero] at m1
      refine ⟨_, ?_, Step.write h hl rfl hL (O := .map (ms.modify j fun e => { e with key := K, val := X }) clock) ?_⟩
      · have hks : (Instr.keyThatStays (((ms[j]?).map (·.key)).getD K) K).run P w = .ok K w := by
          rw [← Array.getElem?_toList, m1]
          simp [Instr.keyThatStays, keep_key m2]
        simp only [Instr.mapUpdate, Sem.run_bind, run_und ht, Result.andThen_ok, hgo, hck, hfk, hks, run_setObj h2 (by intros; simp)]
      · refine ⟨hB, _, by simp [Array.getElem?_setIfInBounds_self_of_lt hblk]; rfl, ?_⟩
        rw [Array.toList_modify]
        exact ERel.set hk hx j h3
end
end Go.Vex
