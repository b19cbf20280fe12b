/- A reckoner of whole functions. No program in sight. -/
import Derived.Test.YtlgaegjlgabggaaGreatYE
namespace Go.X
open Go

section
variable {P : Program} {N : Nat}

/-- An operation as it stands in its region. -/
def opG (P : Program) (call : Caller) (N : Nat) (ops : Array Oper) (st : St) (o : Oper) : Option Rec := match dlt N o.dst with
  | false => none
  | true => match o.guard with
    | none => match opEv P call st o.dst o.op with
      | some r => some ⟨o, r.ro, r.rh, r.fr, r.x, r.dh⟩
      | none => none
    | some (j, want) => match (ops.toList[j]?).bind (·.dst) with
      | none => none
      | some t => match look st.T t with
        | some (.v (.bool b)) => match Bool.xor b want with
          | false => match opEv P call st o.dst o.op with
            | some r => some ⟨o, (.tmp t, .v (.bool b)) :: r.ro, r.rh, r.fr, r.x, r.dh⟩
            | none => none
          | true => some ⟨o, [(.tmp t, .v (.bool b))], [], [], .tup [], []⟩
        | _ => none
theorem opG_ok {call : Caller} (hcall : CallOK P call) {ops : Array Oper} {st : St} {o : Oper} {r : Rec} (h : opG P call N ops st o = some r) : r.o = o ∧ r.OK P N ops st := by
  unfold opG at h
  obtain ⟨d, op, ty, pos, after, g⟩ := o
  split at h
  · cases h
  · rename_i hd
    split at h
    · rename_i hg
      simp only at hg
      subst hg
      split at h
      · rename_i r' hr
        cases h
        have R := opEv_ok (N := N) (ty := ty) (pos := pos) (after := after) (g := none) hcall hd hr
        exact ⟨rfl, OpOK.plain R.run rfl, R.h1, R.h2, R.h3⟩
      · cases h
    · rename_i j want hg
      simp only at hg
      subst hg
      split at h
      · cases h
      · rename_i t hj
        have hj' : (ops[j]?).bind (·.dst) = some t := by simpa using hj
        split at h
        · rename_i b hb
          split at h
          · rename_i hx
            have hx : b = want := by cases b <;> cases want <;> first | rfl | cases hx
            split at h
            · rename_i r' hr
              cases h
              have R := opEv_ok (N := N) (ty := ty) (pos := pos) (after := after) (g := some (j, want)) hcall hd hr
              exact ⟨rfl, OpOK.guarded R.run rfl hj' hx, ⟨hb, R.h1⟩, R.h2, R.h3⟩
            · cases h
          · rename_i hx
            have hx : b = !want := by cases b <;> cases want <;> first | rfl | cases hx
            cases h
            exact ⟨rfl, OpOK.skipped hd rfl hj' hx, ⟨hb, trivial⟩, trivial, trivial⟩
        · cases h

def exOps (P : Program) (call : Caller) (N : Nat) (ops : Array Oper) : List Oper → St → Option (List Rec × St)
  | [], st => some ([], st)
  | o :: r, st => match opG P call N ops st o with
    | some rec => match exOps P call N ops r (rec.app st) with
      | some p => some (rec :: p.1, p.2)
      | none => none
    | none => none
theorem exOps_ok {call : Caller} (hcall : CallOK P call) {ops : Array Oper} : ∀ {rest : List Oper} {st : St} {recs : List Rec} {st' : St}, exOps P call N ops rest st = some (recs, st') →
    recs.map (·.o) = rest ∧ (∀ Q : Exit → St → Prop, Q .normal st' → WS P N ops rest st Q) ∧ (∀ st0 recs0, Chain P N ops recs0 st0 st → Chain P N ops (recs0 ++ recs) st0 st')
  | [], st, recs, st', h => by
    simp only [exOps] at h; cases h
    refine ⟨rfl, fun Q hQ => ⟨fun B imm env a w H => ⟨imm, env, st, H, hQ⟩⟩, fun st0 recs0 hc => by simpa using hc⟩
  | o :: r, st, recs, st', h => by
    simp only [exOps] at h
    split at h
    · rename_i rec hrec
      split at h
      · rename_i p hp
        obtain ⟨recs', st2⟩ := p
        cases h
        obtain ⟨ho, hok⟩ := opG_ok hcall hrec
        obtain ⟨h1, h2, h3⟩ := exOps_ok hcall hp
        refine ⟨by simp [ho, h1], fun Q hQ => ⟨fun B imm env a w H => ?_⟩, fun st0 recs0 hc => ?_⟩
        · have hst := (h2 Q hQ).h
          have hk := hok.ok B imm env st a w (fun a w => wpList P ops (lift B N Q) r a w) (lift B N Q) hok.h1 hok.h2 hok.h3 H fun imm' env' a' w' H' => hst B imm' env' a' w' H'
          rw [ho] at hk
          exact hk
        · have := h3 st0 (recs0 ++ [rec]) (hc.snoc hok)
          simpa using this
      · cases h
    · cases h

/- TIDY STATES. -/
def upd {α : Type} (k : Nat) (x : α) : List (Nat × α) → List (Nat × α)
  | [] => [(k, x)]
  | (j, y) :: r => match Nat.beq j k with
    | true => (k, x) :: r
    | false => (j, y) :: upd k x r
theorem look_upd {α : Type} (k : Nat) (x : α) : ∀ (l : List (Nat × α)) (q : Nat), look (upd k x l) q = if k = q then some x else look l q
  | [], q => by simp only [upd, look_cons]
  | (j, y) :: r, q => by
    simp only [upd]
    split
    · rename_i e
      have e := Nat.eq_of_beq_eq_true e
      subst e
      rw [look_cons, look_cons]
      split <;> rfl
    · rename_i e
      have e : j ≠ k := by rintro rfl; simp at e
      rw [look_cons, look_cons, look_upd k x r q]
      by_cases h1 : j = q
      · subst h1; rw [if_pos rfl, if_pos rfl, if_neg (Ne.symm e)]
      · rw [if_neg h1, if_neg h1]
def updT (d : Option Tmp) (x : V) (T : List (Nat × V)) : List (Nat × V) := match d with
  | some d => upd d x T
  | none => T
def updH : List (Nat × Option Ob) → List (Nat × Option Ob) → List (Nat × Option Ob)
  | [], H => H
  | (k, o) :: r, H => upd k o (updH r H)
theorem look_updH : ∀ (dh H : List (Nat × Option Ob)) (q : Nat), look (updH dh H) q = look (dh ++ H) q
  | [], H, q => rfl
  | (k, o) :: r, H, q => by simp only [updH, List.cons_append, look_upd, look_cons, look_updH r H q]
/- Many numbers of one kind are kept as such. -/
def intsOf (k : IntKind) : List V → Option (List Int)
  | [] => some []
  | .v (.int j n) :: r => match decide (j = k) with
    | true => match intsOf k r with
      | some l => some (n :: l)
      | none => none
    | false => none
  | _ => none
theorem intsOf_ok {k : IntKind} : ∀ {l : List V} {xs : List Int}, intsOf k l = some xs → l = xs.map fun x => V.v (.int k x)
  | [], xs, h => by simp only [intsOf] at h; cases h; rfl
  | x :: r, xs, h => by
    unfold intsOf at h
    split at h
    · rename_i heq; cases heq
    · rename_i j n r' heq
      cases heq
      split at h
      · rename_i hj
        have hj := of_decide_eq_true hj
        subst hj
        split at h
        · rename_i l hl
          cases h
          rw [intsOf_ok hl]; rfl
        · cases h
      · cases h
    · cases h
def packL (l : List V) : V := match l with
  | .v (.int k _) :: _ => match intsOf k l with
    | some xs => .ints k xs.length xs
    | none => .agg l
  | _ => .agg l
def packV (c : V) : V := match c with
  | .agg l => match Nat.ble 64 l.length with
    | true => packL l
    | false => .agg l
  | c => c
theorem packL_flat (l : List V) : packL l = .agg l ∨ (V.flat (packL l) = l ∧ V.ok (packL l) ∧ V.size (packL l) = l.length) := by
  unfold packL
  split
  · split
    · rename_i k n r xs hx
      have e := intsOf_ok hx
      refine .inr ⟨?_, ?_, ?_⟩
      · simp only [V.flat]; exact e.symm
      · rfl
      · simp only [V.size]; rw [e]; simp
    · exact .inl rfl
  · exact .inl rfl
theorem leaf_ints (k : IntKind) (xs : List Int) : ∀ y, y ∈ xs.map (fun x => V.v (.int k x)) → Leaf y := by
  intro y hy
  simp only [List.mem_map] at hy
  obtain ⟨x, _, rfl⟩ := hy
  exact ⟨rfl, trivial, rfl⟩
theorem packV_ent (c : V) (g : Bool) : EntO ⟨c, g⟩ ⟨packV c, g⟩ := by
  intro imm env w r h
  have key : packV c = c ∨ (∃ l, c = .agg l ∧ V.flat (packV c) = l ∧ V.ok (packV c) ∧ V.size (packV c) = l.length ∧ (∀ y, y ∈ l → Leaf y)) := by
    unfold packV
    split
    · rename_i l
      split
      · rcases packL_flat l with h | ⟨h1, h2, h3⟩
        · exact .inl h
        · exact .inr ⟨l, rfl, h1, h2, h3, fun y hy => flat_leaf (packL l) y (by rw [h1]; exact hy)⟩
      · exact .inl rfl
    · exact .inl rfl
  rcases key with h1 | ⟨l, rfl, h1, h2, h3, h4⟩
  · rw [h1]; exact h
  · have hs := flats_of_leaf l h4
    have e1 : V.flat (.agg l) = V.flat (packV (.agg l)) := by rw [h1]; exact hs.1
    have e2 : V.size (.agg l) = V.size (packV (.agg l)) := by rw [h3]; exact hs.2.2
    obtain ⟨a1, a2⟩ := h
    refine ⟨h2, ?_⟩
    simp only [e1, e2] at a2
    exact a2
def packH : List (Nat × Option Ob) → List (Nat × Option Ob)
  | [] => []
  | (k, some ob) :: r => (k, some ⟨packV ob.c, ob.grow⟩) :: packH r
  | (k, none) :: r => (k, none) :: packH r

def RelO : Option (Option Ob) → Option (Option Ob) → Prop
  | none, none => True
  | some none, some none => True
  | some (some o), some (some o') => EntO o o'
  | _, _ => False
theorem RelO.refl (x : Option (Option Ob)) : RelO x x := by
  cases x with
  | none => trivial
  | some x => cases x with
    | none => trivial
    | some o => exact EntO.refl o
def RelSt (s t : St) : Prop := (∀ x, look s.T x = look t.T x) ∧ (∀ k, RelO (look s.H k) (look t.H k))
theorem RelO.back {x y : Option (Option Ob)} (h : RelO x y) {o' : Ob} (hy : y.join = some o') : ∃ o, x.join = some o ∧ EntO o o' := by
  cases y with
  | none => cases hy
  | some y => cases y with
    | none => cases hy
    | some o2 =>
      have : o2 = o' := by simpa using hy
      subst this
      cases x with
      | none => cases h
      | some x => cases x with
        | none => cases h
        | some o => exact ⟨o, rfl, h⟩
theorem RelO.none_iff {x y : Option (Option Ob)} (h : RelO x y) (hy : y = none) : x = none := by
  subst hy
  cases x with
  | none => rfl
  | some x => cases x <;> cases h
theorem Holds.ents {B : Base} {imm : Imm} {env : Env} {s t : St} {a : Act} {w : World} (e : RelSt s t) (h : Holds B N imm env s a w) : Holds B N imm env t a w := by
  have hb : ∀ {k : Nat} {ob : Ob}, lookH t.H k = some ob → ∃ o, lookH s.H k = some o ∧ EntO o ob := fun {k ob} hk => (e.2 k).back hk
  refine ⟨fun x y hx => h.tmps x y (by rw [e.1 x]; exact hx), ⟨fun k ob hk => ?_, ?_, fun k r hk hn => ?_, h.heap.immlt, ?_⟩, h.immok, ?_, h.keep, h.agree, h.ntmps, h.nodef⟩
  · obtain ⟨o, h1, h2⟩ := hb hk
    obtain ⟨r, h3, h4⟩ := h.heap.obj k o h1
    exact ⟨r, h3, h2 _ _ _ _ h4⟩
  · intro j k r s' o o' hj hk hr hs
    obtain ⟨p, hp, _⟩ := hb hj
    obtain ⟨q, hq, _⟩ := hb hk
    exact h.heap.inj j k r s' p q hp hq hr hs
  · exact h.heap.dom k r hk ((e.2 k).none_iff hn)
  · intro k ob r hk hr
    obtain ⟨p, hp, _⟩ := hb hk
    exact h.heap.sep k p r hp hr
  · intro k ob r hk hr
    obtain ⟨p, hp, _⟩ := hb hk
    exact h.own k p r hp hr

def tidy : List Rec → St → St
  | [], st => st
  | r :: rs, st => tidy rs ⟨updT r.o.dst r.x st.T, updH (packH r.dh) st.H⟩
theorem packH_rel : ∀ (dh H H' : List (Nat × Option Ob)), (∀ q, RelO (look H q) (look H' q)) → ∀ q, RelO (look (dh ++ H) q) (look (packH dh ++ H') q)
  | [], _, _, h, q => h q
  | (k, o) :: r, H, H', h, q => by
    have ih := packH_rel r H H' h q
    cases o with
    | none =>
      simp only [packH, List.cons_append, look_cons]
      split
      · trivial
      · exact ih
    | some ob =>
      simp only [packH, List.cons_append, look_cons]
      split
      · exact packV_ent ob.c ob.grow
      · exact ih
theorem tidy_eq : ∀ (rs : List Rec) (s t : St), RelSt s t → ∀ i, RelSt (runS (fun _ => true) i rs s) (tidy rs t)
  | [], s, t, h, _ => h
  | r :: rs, s, t, h, i => by
    have key : RelSt (r.app s) ⟨updT r.o.dst r.x t.T, updH (packH r.dh) t.H⟩ := by
      refine ⟨fun q => ?_, fun q => ?_⟩
      · show look (putT r.o.dst r.x s.T) q = look (updT r.o.dst r.x t.T) q
        cases r.o.dst with
        | none => exact h.1 q
        | some d => simp only [putT, updT, look_cons, look_upd, h.1 q]
      · show RelO (look (r.dh ++ s.H) q) (look (updH (packH r.dh) t.H) q)
        rw [look_updH]
        exact packH_rel r.dh s.H t.H h.2 q
    exact tidy_eq rs _ _ key (i + 1)

/- CODE. -/
def regEv (P : Program) (call : Caller) (N : Nat) (ops : Array Oper) (draw : Bool) (st : St) : Option St := match exOps P call N ops ops.toList st with
  | some (recs, _) => match draw with
    | false => some (tidy recs st)
    | true => match calm ops.toList (recs.map Rec.foot) with
      | true => some (tidy recs st)
      | false => none
  | none => none
theorem regEv_ok {call : Caller} (hm : P.follows .mixedOrders = true) (hcall : CallOK P call) {id : Nat} {ops : Array Oper} {draw : Bool} {st st' : St} (h : regEv P call N ops draw st = some st') (Q : Exit → St → Prop) (hQ : Q .normal st') : W P N (.region id ops draw) st Q := by
  unfold regEv at h
  split at h
  · rename_i recs st2 he
    obtain ⟨h1, h2, h3⟩ := exOps_ok hcall he
    have hch := h3 st [] (.nil st)
    simp only [List.nil_append] at hch
    have heq : RelSt st2 (tidy recs st) := by
      rw [hch.at.2]; exact tidy_eq recs st st ⟨fun _ => rfl, fun _ => RelO.refl _⟩ 0
    have fin : ∀ {c : Code}, W P N c st (fun e s => e = .normal ∧ s = st2) → st' = tidy recs st → W P N c st Q := fun hw hst => ⟨fun B imm env a w H => by
      refine wp_mono (hw.h B imm env a w H) ?_
      rintro e a' w' ⟨imm', env', s, H', rfl, rfl⟩
      exact ⟨imm', env', st', by rw [hst]; exact Holds.ents heq H', hQ⟩⟩
    have hto : ops.toList.toArray = ops := Array.toArray_toList
    split at h
    · cases h
      refine fin ⟨fun B imm env a w H => ?_⟩ rfl
      have := (h2 (fun e s => e = .normal ∧ s = st2) ⟨rfl, rfl⟩).h B imm env a w H
      have hr := wp_region_lit (id := id) (l := ops.toList) (by rw [hto]; exact this)
      rw [hto] at hr
      exact hr
    · split at h
      · rename_i hc
        cases h
        refine fin ?_ rfl
        have hd : ∃ z : Unit, WD P N id ops.toList st (recs.map Rec.foot) [] st2 ((fun _ e s => e = .normal ∧ s = st2) z) := XD.done hm hc ⟨(), rfl, rfl⟩
        obtain ⟨_, hd⟩ := hd
        have := hd.h recs (by rw [hto]; exact hch) rfl (by rw [List.append_nil]; exact h1)
        rw [hto] at this
        exact this
      · cases h
  · cases h

def exCode (P : Program) (call : Caller) (N : Nat) : Nat → Code → St → Option (Exit × St)
  | 0, _, _ => none
  | n + 1, c, st => match c with
    | .skip => some (.normal, st)
    | .region _ ops draw => match regEv P call N ops draw st with
      | some st' => some (.normal, st')
      | none => none
    | .seq a b => match exCode P call N n a st with
      | some (.normal, st') => exCode P call N n b st'
      | r => r
    | .cond x a b => match ev st.T x with
      | some (.v (.bool true)) => exCode P call N n a st
      | some (.v (.bool false)) => exCode P call N n b st
      | _ => none
    | .block id b => match exCode P call N n b st with
      | some (.exit i, st') => match Nat.beq i id with
        | true => some (.normal, st')
        | false => some (.exit i, st')
      | r => r
    | .loop b => match exCode P call N n b st with
      | some (.normal, st') => exCode P call N n (.loop b) st'
      | r => r
    | .exit id => some (.exit id, st)
    | .ret => some (.ret, st)
    | _ => none

theorem W.skip' {st : St} {Q : Exit → St → Prop} (h : Q .normal st) : W P N .skip st Q := ⟨fun B imm env a w H => wp_skip ⟨imm, env, st, H, h⟩⟩
theorem W.of {c : Code} {st : St} {Q : Exit → St → Prop} (h : ∃ _ : Unit, W P N c st Q) : W P N c st Q := h.elim fun _ h => h
theorem WR.of {c : Code} {n : Nat} {st : St} {Q : Exit → St → Prop} (h : ∃ _ : Unit, WR P N c n st Q) : WR P N c n st Q := h.elim fun _ h => h
theorem exCode_ok {call : Caller} (hm : P.follows .mixedOrders = true) (hcall : CallOK P call) : ∀ (n : Nat) (c : Code) (st : St) (e : Exit) (st' : St), exCode P call N n c st = some (e, st') →
    ∀ Q : Exit → St → Prop, Q e st' → W P N c st Q ∧ (∀ b, c = .loop b → ∃ m, WR P N b m st Q) := by
  intro n
  induction n with
  | zero => intro c st e st' h; simp [exCode] at h
  | succ n ih =>
    intro c st e st' h Q hQ
    unfold exCode at h
    split at h
    · cases h; exact ⟨W.of (X.skip (O := Unit) (Q := fun _ => Q) ⟨(), hQ⟩), fun b hb => by cases hb⟩
    · split at h
      · rename_i st2 hr
        cases h
        exact ⟨regEv_ok hm hcall hr Q hQ, fun b hb => by cases hb⟩
      · cases h
    · rename_i a b
      refine ⟨?_, fun b hb => by cases hb⟩
      refine W.of (X.seq (O := Unit) (Q := fun _ => Q) ⟨(), ?_⟩)
      split at h
      · rename_i st2 ha
        exact (ih a st _ _ ha _ (ih b st2 _ _ h Q hQ).1).1
      · rename_i hne
        refine (ih a st e st' h _ ?_).1
        cases e with
        | normal => exact absurd h (hne st')
        | _ => exact hQ
    · rename_i x a b
      refine ⟨?_, fun b hb => by cases hb⟩
      split at h
      · rename_i hx
        exact W.of (X.condT (O := Unit) (Q := fun _ => Q) hx rfl ⟨(), (ih a st e st' h Q hQ).1⟩)
      · rename_i hx
        exact W.of (X.condF (O := Unit) (Q := fun _ => Q) hx rfl ⟨(), (ih b st e st' h Q hQ).1⟩)
      · cases h
    · rename_i id b
      refine ⟨?_, fun b hb => by cases hb⟩
      refine W.of (X.block (O := Unit) (Q := fun _ => Q) ⟨(), ?_⟩)
      split at h
      · rename_i i st2 hb
        split at h
        · rename_i e1
          cases h
          exact (ih b st _ _ hb _ (by simp only [inBlockQ, e1]; exact hQ)).1
        · rename_i e1
          cases h
          exact (ih b st _ _ hb _ (by simp only [inBlockQ, e1]; exact hQ)).1
      · rename_i hne
        refine (ih b st e st' h _ ?_).1
        cases e with
        | exit i => exact absurd h (hne i st')
        | _ => exact hQ
    · rename_i b
      have key : ∃ m, WR P N b m st Q := by
        split at h
        · rename_i st2 hb
          obtain ⟨m, hm'⟩ := (ih (.loop b) st2 e st' h Q hQ).2 b rfl
          exact ⟨m + 1, WR.of (X.round (O := Unit) (Q := fun _ => Q) ⟨(), (ih b st _ _ hb _ hm').1⟩)⟩
        · rename_i hne
          refine ⟨0 + 1, WR.of (X.round (O := Unit) (Q := fun _ => Q) ⟨(), (ih b st e st' h _ ?_).1⟩)⟩
          cases e with
          | normal => exact absurd h (hne st')
          | _ => exact hQ
      obtain ⟨m, hm'⟩ := key
      exact ⟨W.of (X.loop (O := Unit) (Q := fun _ => Q) m ⟨(), hm'⟩), fun b' hb' => by cases hb'; exact ⟨m, hm'⟩⟩
    · cases h; exact ⟨W.of (X.exit (O := Unit) (Q := fun _ => Q) ⟨(), hQ⟩), fun b hb => by cases hb⟩
    · cases h; exact ⟨W.of (X.ret (O := Unit) (Q := fun _ => Q) ⟨(), hQ⟩), fun b hb => by cases hb⟩
    · cases h
end
end Go.X
