/- A region whose order is open: whatever order its edges allow comes to the same, where all that clash are ordered. No program in sight. -/
import Derived.Test.YtlgaegjlgabggaaGreatXH
import Derived.Orders
namespace Go.X
open Go

structure Rec where
  o : Oper
  ro : List (Operand × V)
  rh : List (Nat × Ob)
  fr : List Nat
  x : V
  dh : List (Nat × Option Ob)

def Rec.app (r : Rec) (st : St) : St := ⟨putT r.o.dst r.x st.T, r.dh ++ st.H⟩

structure Foot where
  rt : List Tmp
  rh : List Nat
  wt : List Tmp
  wh : List Nat

def tmpOf : Operand → List Tmp
  | .tmp t => [t]
  | _ => []
def Rec.foot (r : Rec) : Foot := ⟨r.ro.flatMap fun p => tmpOf p.1, r.rh.map (·.1) ++ r.fr, r.o.dst.toList, r.dh.map (·.1)⟩

def hits (a b : List Nat) : Bool := a.any fun x => b.contains x
/-- Two steps that may not be exchanged, by their looks. -/
def Foot.clash (x y : Foot) : Bool := hits x.wt y.rt || hits x.wt y.wt || hits y.wt x.rt || hits x.wh y.rh || hits x.wh y.wh || hits y.wh x.rh

/-- Who comes ahead of an operation, in whatever order. -/
def aheadOf (acc : List Nat) (o : Oper) : Nat := o.after.toList.foldl (fun s e => match Region.binds .any e with | true => s ||| 2 ^ e.on ||| acc.getD e.on 0 | false => s) 0
def aheads : List Nat → List Oper → List Nat
  | acc, [] => acc
  | acc, o :: r => aheads (acc ++ [aheadOf acc o]) r

def backward (i : Nat) (o : Oper) : Bool := o.after.toList.all fun e => match Region.binds .any e with | true => Nat.blt e.on i | false => true
def backwards : Nat → List Oper → Bool
  | _, [] => true
  | i, o :: r => backward i o && backwards (i + 1) r

/-- All that clash are ordered. -/
def calmAt (bs : List Nat) (fs : List Foot) : Nat → List Foot → Bool
  | _, [] => true
  | j, y :: r => ((List.range j).all fun i => match fs[i]? with | some x => !(x.clash y) || (bs.getD j 0).testBit i | none => false) && calmAt bs fs (j + 1) r
def calm (ops : List Oper) (fs : List Foot) : Bool := backwards 0 ops && calmAt (aheads [] ops) fs 0 fs

theorem hits_iff {a b : List Nat} : hits a b = true ↔ ∃ x, x ∈ a ∧ x ∈ b := by
  simp only [hits, List.any_eq_true, List.contains_iff_mem]

theorem clash_symm_not {x y : Foot} (h : x.clash y = false) : (∀ t, t ∈ x.wt → t ∉ y.rt ∧ t ∉ y.wt) ∧ (∀ t, t ∈ y.wt → t ∉ x.rt) ∧ (∀ t, t ∈ x.wh → t ∉ y.rh ∧ t ∉ y.wh) ∧ (∀ t, t ∈ y.wh → t ∉ x.rh) := by
  simp only [Foot.clash, Bool.or_eq_false_iff] at h
  obtain ⟨⟨⟨⟨⟨h1, h2⟩, h3⟩, h4⟩, h5⟩, h6⟩ := h
  have key : ∀ {a b : List Nat}, hits a b = false → ∀ t, t ∈ a → t ∉ b := fun hab t ha hb => by
    rw [hits_iff.2 ⟨t, ha, hb⟩] at hab; cases hab
  exact ⟨fun t ht => ⟨key h1 t ht, key h2 t ht⟩, fun t ht => key h3 t ht, fun t ht => ⟨key h4 t ht, key h5 t ht⟩, fun t ht => key h6 t ht⟩

/- Edges. -/
theorem aheads_get : ∀ (ops : List Oper) (acc : List Nat) (j : Nat), (aheads acc ops)[j]? = if j < acc.length then acc[j]? else (ops[j - acc.length]?).map fun o => aheadOf (aheads acc (ops.take (j - acc.length))) o
  | [], acc, j => by
    simp only [aheads]
    split
    · rfl
    · rename_i h; simp; omega
  | o :: r, acc, j => by
    simp only [aheads]
    rw [aheads_get r (acc ++ [aheadOf acc o]) j]
    simp only [List.length_append, List.length_singleton]
    by_cases h1 : j < acc.length
    · rw [if_pos (by omega), if_pos h1, List.getElem?_append_left h1]
    · by_cases h2 : j = acc.length
      · subst h2
        rw [if_pos (by omega), if_neg h1]
        simp [aheads]
      · rw [if_neg (by omega), if_neg h1]
        have e : j - acc.length = (j - (acc.length + 1)) + 1 := by omega
        rw [e, List.getElem?_cons_succ, List.take_succ_cons]
        rfl
theorem aheads_length : ∀ (ops : List Oper) (acc : List Nat), (aheads acc ops).length = acc.length + ops.length
  | [], acc => by simp [aheads]
  | o :: r, acc => by simp [aheads, aheads_length r]; omega

theorem foldl_bit (acc : List Nat) (i : Nat) : ∀ (es : List Edge) (s : Nat), (es.foldl (fun s e => match Region.binds .any e with | true => s ||| 2 ^ e.on ||| acc.getD e.on 0 | false => s) s).testBit i = true →
    s.testBit i = true ∨ ∃ e, e ∈ es ∧ Region.binds .any e = true ∧ (e.on = i ∨ (acc.getD e.on 0).testBit i = true)
  | [], s, h => .inl h
  | e :: es, s, h => by
    rw [List.foldl_cons] at h
    rcases foldl_bit acc i es _ h with h1 | ⟨e', h1, h2, h3⟩
    · split at h1
      · rename_i hb
        simp only [Nat.testBit_or, Bool.or_eq_true, Nat.testBit_two_pow, decide_eq_true_eq] at h1
        rcases h1 with (h1 | h1) | h1
        · exact .inl h1
        · exact .inr ⟨e, .head _, hb, .inl h1⟩
        · exact .inr ⟨e, .head _, hb, .inr h1⟩
      · exact .inl h1
    · exact .inr ⟨e', .tail _ h1, h2, h3⟩

/-- What is listed is listed with all that comes ahead. -/
def Closed (ops : List Oper) (S : Nat → Bool) : Prop := ∀ (j : Nat) (o : Oper), ops[j]? = some o → S j = true → ∀ e, e ∈ o.after.toList → Region.binds .any e = true → S e.on = true

theorem ahead_in {ops : List Oper} {S : Nat → Bool} (hS : Closed ops S) : ∀ (j : Nat) (o : Oper), ops[j]? = some o → (∀ e, e ∈ o.after.toList → Region.binds .any e = true → S e.on = true) → ∀ i, ((aheads [] ops).getD j 0).testBit i = true → S i = true := by
  intro j
  induction j using Nat.strongRecOn with
  | _ j ih =>
    intro o ho hpre i hi
    have hg := aheads_get ops [] j
    simp only [List.length_nil, Nat.not_lt_zero, if_false, Nat.sub_zero, ho, Option.map_some] at hg
    rw [List.getD, hg] at hi
    simp only [Option.getD_some] at hi
    rcases foldl_bit _ i _ _ hi with h1 | ⟨e, h1, h2, h3⟩
    · simp at h1
    · have hSe := hpre e h1 h2
      rcases h3 with h3 | h3
      · rw [← h3]; exact hSe
      · -- the edge's own
        have hlen := aheads_length (ops.take j) []
        have hlt : e.on < (ops.take j).length := by
          rcases Nat.lt_or_ge e.on (ops.take j).length with h4 | h4
          · exact h4
          · rw [List.getD, List.getElem?_eq_none (by rw [hlen]; simpa using h4)] at h3
            simp at h3
        have hlj : e.on < j := by rw [List.length_take] at hlt; omega
        have hle : e.on < ops.length := by rw [List.length_take] at hlt; omega
        have hsame : (aheads [] (ops.take j)).getD e.on 0 = (aheads [] ops).getD e.on 0 := by
          rw [List.getD, List.getD, aheads_get, aheads_get]
          simp only [List.length_nil, Nat.not_lt_zero, if_false, Nat.sub_zero]
          rw [List.getElem?_take, if_pos hlj, List.take_take, Nat.min_eq_left (by omega)]
        rw [hsame] at h3
        exact ih e.on hlj _ (List.getElem?_eq_getElem hle) (fun e' h5 h6 => hS e.on _ (List.getElem?_eq_getElem hle) hSe e' h5 h6) i h3

/- The state behind some of the steps, in the text's order. -/
def runS (S : Nat → Bool) : Nat → List Rec → St → St
  | _, [], st => st
  | i, r :: rs, st => runS S (i + 1) rs (match S i with | true => r.app st | false => st)

theorem putT_look (d : Option Tmp) (x : V) (T : List (Nat × V)) (t : Nat) : look (putT d x T) t = if d = some t then some x else look T t := by
  cases d with
  | none => simp [putT]
  | some d =>
    simp only [putT, look_cons, Option.some.injEq]

theorem runS_T {S S' : Nat → Bool} {t : Nat} : ∀ (rs : List Rec) (i : Nat) (st st' : St), look st.T t = look st'.T t → (∀ (j : Nat) (r : Rec), rs[j]? = some r → r.o.dst = some t → S (i + j) = S' (i + j)) → look (runS S i rs st).T t = look (runS S' i rs st').T t
  | [], _, _, _, h, _ => h
  | r :: rs, i, st, st', h, hw => by
    simp only [runS]
    refine runS_T rs (i + 1) _ _ ?_ fun j r' hr' hd => by
      have := hw (j + 1) r' (by simpa using hr') hd
      rwa [show i + (j + 1) = i + 1 + j by omega] at this
    by_cases hd : r.o.dst = some t
    · have := hw 0 r rfl hd
      simp only [Nat.add_zero] at this
      rw [this]
      cases S' i
      · exact h
      · simp only [Rec.app, putT_look, hd, if_true]
    · have e : ∀ (b : Bool) (s : St), look (match b with | true => r.app s | false => s).T t = look s.T t := by
        intro b s; cases b
        · rfl
        · simp only [Rec.app, putT_look, hd, if_false]
      rw [e, e]; exact h
theorem look_none_keys {H : List (Nat × Option Ob)} {k : Nat} (h : k ∉ H.map (·.1)) : look H k = none := by
  induction H with
  | nil => rfl
  | cons p r ih =>
    obtain ⟨j, x⟩ := p
    rw [look_cons]
    simp only [List.map_cons, List.mem_cons, not_or] at h
    rw [if_neg (Ne.symm h.1)]; exact ih h.2
theorem runS_H {S S' : Nat → Bool} {k : Nat} : ∀ (rs : List Rec) (i : Nat) (st st' : St), look st.H k = look st'.H k → (∀ (j : Nat) (r : Rec), rs[j]? = some r → k ∈ r.dh.map (·.1) → S (i + j) = S' (i + j)) → look (runS S i rs st).H k = look (runS S' i rs st').H k
  | [], _, _, _, h, _ => h
  | r :: rs, i, st, st', h, hw => by
    simp only [runS]
    refine runS_H rs (i + 1) _ _ ?_ fun j r' hr' hd => by
      have := hw (j + 1) r' (by simpa using hr') hd
      rwa [show i + (j + 1) = i + 1 + j by omega] at this
    by_cases hd : k ∈ r.dh.map (·.1)
    · have := hw 0 r rfl hd
      simp only [Nat.add_zero] at this
      rw [this]
      cases S' i
      · exact h
      · simp only [Rec.app, look_append, h]
    · have e : ∀ (b : Bool) (s : St), look (match b with | true => r.app s | false => s).H k = look s.H k := by
        intro b s; cases b
        · rfl
        · simp only [Rec.app, look_append, look_none_keys hd]
      rw [e, e]; exact h

def EqSt (s t : St) : Prop := (∀ x, look s.T x = look t.T x) ∧ (∀ k, look s.H k = look t.H k)
theorem Holds.ext {B : Base} {N : Nat} {imm : Imm} {env : Env} {s t : St} {a : Act} {w : World} (e : EqSt s t) (h : Holds B N imm env s a w) : Holds B N imm env t a w := by
  have eH : ∀ k, lookH t.H k = lookH s.H k := fun k => by simp only [lookH, e.2 k]
  exact ⟨fun x y hy => h.tmps x y (by rw [e.1]; exact hy), ⟨fun k ob hk => h.heap.obj k ob (by rw [← eH]; exact hk), fun j k r s' o o' hj hk => h.heap.inj j k r s' o o' (by rw [← eH]; exact hj) (by rw [← eH]; exact hk),
    fun k r hk => by rw [← e.2 k]; exact h.heap.dom k r hk, h.heap.immlt, fun k ob r hk => h.heap.sep k ob r (by rw [← eH]; exact hk)⟩, h.immok, fun k ob r hk => h.own k ob r (by rw [← eH]; exact hk), h.keep, h.agree, h.ntmps, h.nodef⟩

/-- A record's step may be taken from a state. -/
structure Rec.OK (P : Program) (N : Nat) (ops : Array Oper) (r : Rec) (st : St) : Prop where
  ok : OpOK P N ops r.o r.ro r.rh r.fr r.x r.dh
  h1 : AllP (fun p => ev st.T p.1 = some p.2) r.ro
  h2 : AllP (fun p => lookH st.H p.1 = some p.2) r.rh
  h3 : AllP (fun k => look st.H k = none) r.fr

theorem AllP.imp_mem {α : Type} {f g : α → Prop} : ∀ {l : List α}, (∀ x, x ∈ l → f x → g x) → AllP f l → AllP g l
  | [], _, _ => trivial
  | x :: r, h, ⟨h1, h2⟩ => ⟨h x (.head _) h1, AllP.imp_mem (fun y hy => h y (.tail _ hy)) h2⟩

theorem Rec.OK.of_same {P : Program} {N : Nat} {ops : Array Oper} {r : Rec} {st st' : St} (h : r.OK P N ops st) (hT : ∀ t, t ∈ r.foot.rt → look st'.T t = look st.T t) (hH : ∀ k, k ∈ r.foot.rh → look st'.H k = look st.H k) : r.OK P N ops st' := by
  refine ⟨h.ok, h.h1.imp_mem fun p hp he => ?_, h.h2.imp_mem fun p hp he => ?_, h.h3.imp_mem fun k hk he => ?_⟩
  · cases hx : p.1 with
    | tmp t =>
      rw [hx] at he
      have := hT t (by simp only [Rec.foot, List.mem_flatMap]; exact ⟨p, hp, by rw [hx]; exact .head _⟩)
      simp only [X.ev] at he ⊢
      rw [this]; exact he
    | _ => rw [hx] at he; exact he
  · have := hH p.1 (by simp only [Rec.foot, List.mem_append, List.mem_map]; exact .inl ⟨p, hp, rfl⟩)
    simp only [lookH, this] at he ⊢; exact he
  · rw [hH k (by simp only [Rec.foot, List.mem_append]; exact .inr hk)]; exact he

/-- The steps, one behind the other. -/
inductive Chain (P : Program) (N : Nat) (ops : Array Oper) : List Rec → St → St → Prop
  | nil (st : St) : Chain P N ops [] st st
  | snoc {rs : List Rec} {st st' : St} {r : Rec} (h : Chain P N ops rs st st') (hr : r.OK P N ops st') : Chain P N ops (rs ++ [r]) st (r.app st')

theorem runS_append (S : Nat → Bool) : ∀ (rs : List Rec) (r : Rec) (i : Nat) (st : St), runS S i (rs ++ [r]) st = match S (i + rs.length) with | true => r.app (runS S i rs st) | false => runS S i rs st
  | [], r, i, st => by simp [runS]
  | q :: rs, r, i, st => by
    rw [List.cons_append]
    simp only [runS, List.length_cons]
    rw [runS_append S rs r (i + 1)]
    rw [show i + 1 + rs.length = i + (rs.length + 1) by omega]

theorem runS_congr {S S' : Nat → Bool} : ∀ (rs : List Rec) (i : Nat) (st : St), (∀ j, j < rs.length → S (i + j) = S' (i + j)) → runS S i rs st = runS S' i rs st
  | [], _, _, _ => rfl
  | r :: rs, i, st, h => by
    simp only [runS]
    have h0 := h 0 (by simp)
    simp only [Nat.add_zero] at h0
    rw [h0]
    exact runS_congr rs (i + 1) _ fun j hj => by
      have := h (j + 1) (by simpa using hj)
      rwa [show i + (j + 1) = i + 1 + j by omega] at this

theorem Chain.at {P : Program} {N : Nat} {ops : Array Oper} {rs : List Rec} {st st' : St} (h : Chain P N ops rs st st') : (∀ (i : Nat) (r : Rec), rs[i]? = some r → r.OK P N ops (runS (fun j => decide (j < i)) 0 rs st)) ∧ st' = runS (fun _ => true) 0 rs st := by
  induction h with
  | nil st => exact ⟨fun i r h => by simp at h, rfl⟩
  | @snoc rs st st' r h hr ih =>
    obtain ⟨ih1, ih2⟩ := ih
    refine ⟨fun i q hq => ?_, by rw [runS_append]; simp only [ih2]⟩
    by_cases hi : i < rs.length
    · rw [List.getElem?_append_left hi] at hq
      have := ih1 i q hq
      rw [runS_append]
      have e : decide (0 + rs.length < i) = false := by simp; omega
      simp only [e]; exact this
    · have hi2 : i = rs.length := by
        rcases Nat.lt_or_ge i (rs.length + 1) with h1 | h1
        · omega
        · rw [List.getElem?_eq_none (by simp; omega)] at hq; cases hq
      subst hi2
      simp at hq; subst hq
      rw [runS_append]
      have e : decide (0 + rs.length < rs.length) = false := by simp
      simp only [e]
      rw [runS_congr (S' := fun _ => true) rs 0 st (fun j hj => by simp; omega), ← ih2]
      exact hr

theorem calmAt_spec {bs : List Nat} {fs : List Foot} : ∀ (l : List Foot) (j : Nat), calmAt bs fs j l = true → ∀ (i m : Nat) (x y : Foot), l[m]? = some y → fs[i]? = some x → i < j + m → x.clash y = true → (bs.getD (j + m) 0).testBit i = true
  | [], _, _, i, m, x, y, hy, _, _, _ => by simp at hy
  | z :: r, j, h, i, m, x, y, hy, hx, hlt, hc => by
    simp only [calmAt, Bool.and_eq_true] at h
    cases m with
    | zero =>
      simp at hy; subst hy
      have := List.all_eq_true.1 h.1 i (List.mem_range.2 (by omega))
      rw [hx] at this
      simp only [hc, Bool.not_true, Bool.false_or] at this
      exact this
    | succ m =>
      have := calmAt_spec r (j + 1) h.2 i m x y (by simpa using hy) hx (by omega) hc
      rwa [show j + 1 + m = j + (m + 1) by omega] at this

theorem backwards_spec : ∀ (ops : List Oper) (i : Nat), backwards i ops = true → ∀ (j : Nat) (o : Oper), ops[j]? = some o → ∀ e, e ∈ o.after.toList → Region.binds .any e = true → e.on < i + j
  | [], _, _, j, o, h => by simp at h
  | q :: r, i, hb, j, o, h => by
    simp only [backwards, Bool.and_eq_true] at hb
    cases j with
    | zero =>
      simp at h; subst h
      intro e he hbe
      have := List.all_eq_true.1 hb.1 e he
      rw [hbe] at this
      exact blt_lt this
    | succ j =>
      intro e he hbe
      have := backwards_spec r (i + 1) hb.2 j o (by simpa using h) e he hbe
      omega

/-- How many are not listed yet. -/
def left (listed : Array Bool) : Nat → Nat
  | 0 => 0
  | n + 1 => left listed n + (match listed.getD n false with | true => 0 | false => 1)

theorem left_set {listed : Array Bool} {i : Nat} (hi : listed.getD i true = false) : ∀ n, i < n → left (listed.setIfInBounds i true) n + 1 = left listed n
  | 0, h => by omega
  | n + 1, h => by
    have hlt : i < listed.size := by
      rcases Nat.lt_or_ge i listed.size with h1 | h1
      · exact h1
      · simp [Array.getElem?_eq_none h1] at hi
    by_cases e : i = n
    · subst e
      have h1 : (listed.setIfInBounds i true).getD i false = true := by simp [hlt]
      have h2 : listed.getD i false = false := by
        have := hi
        simp [Array.getElem?_eq_getElem hlt] at this ⊢
        exact this
      simp only [left, h1, h2]
      have : ∀ m, m ≤ i → left (listed.setIfInBounds i true) m = left listed m := by
        intro m
        induction m with
        | zero => intro _; rfl
        | succ m ih =>
          intro hm
          simp only [left, ih (by omega)]
          rw [getD_set_ne false (by omega)]
      rw [this i (Nat.le_refl _)]
    · simp only [left]
      rw [getD_set_ne false e]
      have := left_set hi n (by omega)
      omega

theorem left_zero {listed : Array Bool} : ∀ n, left listed n = 0 → ∀ i, i < n → listed.getD i false = true
  | 0, _, i, h => by omega
  | n + 1, h, i, hi => by
    simp only [left] at h
    by_cases e : i = n
    · subst e
      cases h2 : listed.getD i false
      · rw [h2] at h; simp at h
      · rfl
    · exact left_zero n (by omega) i (by omega)

theorem draw_sound {P : Program} {N : Nat} {B : Base} {ops : List Oper} {recs : List Rec} {st0 stN : St} {Q : Exit → St → Prop} (hch : Chain P N ops.toArray recs st0 stN) (hops : recs.map (·.o) = ops) (hcalm : calm ops (recs.map Rec.foot) = true) (hQ : Q .normal stN) :
    ∀ (fuel : Nat) (listed : Array Bool) (imm : Imm) (env : Env) (a : Act) (w : World) (st : St), Holds B N imm env st a w → EqSt st (runS (fun i => listed.getD i false) 0 recs st0) → Closed ops (fun i => listed.getD i false) → listed.size = ops.length → left listed ops.length ≤ fuel →
      wpAny P .any ops.toArray (lift B N Q) fuel listed a w := by
  obtain ⟨hat, hN⟩ := hch.at
  simp only [calm, Bool.and_eq_true] at hcalm
  obtain ⟨hback, hcalm⟩ := hcalm
  have hlen : recs.length = ops.length := by rw [← hops]; simp
  -- nothing is ready: all are listed
  have hdone : ∀ listed : Array Bool, Closed ops (fun i => listed.getD i false) → listed.size = ops.length → Region.ready .any ops.toArray listed = [] → ∀ i, i < ops.length → listed.getD i false = true := by
    intro listed _ hsz hr i
    induction i using Nat.strongRecOn with
    | _ i ih =>
      intro hi
      cases hb : listed.getD i false with
      | true => rfl
      | false =>
        exfalso
        have : i ∈ Region.ready .any ops.toArray listed := by
          rw [mem_ready]
          refine ⟨?_, ops[i], by simp [hi], fun e he hbe => ?_⟩
          · have hlt : i < listed.size := by omega
            simp [Array.getElem?_eq_getElem hlt] at hb ⊢; exact hb
          · have hlt := backwards_spec ops 0 hback i _ (List.getElem?_eq_getElem hi) e (Array.mem_toList_iff.2 he) hbe
            exact ih e.on (by omega) (by omega)
        rw [hr] at this; cases this
  have hfin : ∀ (listed : Array Bool) (imm : Imm) (env : Env) (a : Act) (w : World) (st : St), Holds B N imm env st a w → EqSt st (runS (fun i => listed.getD i false) 0 recs st0) → (∀ i, i < ops.length → listed.getD i false = true) → lift B N Q .normal a w := by
    intro listed imm env a w st H hst hall
    refine ⟨imm, env, stN, H.ext ?_, hQ⟩
    rw [hN]
    rw [runS_congr (S' := fun _ => true) recs 0 st0 (fun j hj => by simp only [Nat.zero_add]; exact hall j (by omega))] at hst
    exact hst
  intro fuel
  induction fuel with
  | zero =>
    intro listed imm env a w st H hst hcl hsz hleft
    have hall := left_zero (listed := listed) ops.length (by omega)
    refine ⟨?_, hfin listed imm env a w st H hst hall⟩
    cases hr : Region.ready .any ops.toArray listed with
    | nil => rfl
    | cons i r =>
      have hm : i ∈ Region.ready .any ops.toArray listed := by rw [hr]; exact .head _
      rw [mem_ready] at hm
      obtain ⟨h1, o, ho, _⟩ := hm
      have hi : i < ops.length := by
        have := (Array.getElem?_eq_some_iff.1 ho).1; simpa using this
      have h2 := hall i hi
      have hlt : i < listed.size := by omega
      simp [Array.getElem?_eq_getElem hlt] at h1 h2
      rw [h1] at h2; cases h2
  | succ fuel ih =>
    intro listed imm env a w st H hst hcl hsz hleft
    refine ⟨fun hr => hfin listed imm env a w st H hst (hdone listed hcl hsz hr), fun i hi => ?_⟩
    rw [mem_ready] at hi
    obtain ⟨hnot, o, ho, hpre⟩ := hi
    have ho' : ops[i]? = some o := by simpa using ho
    have hilt : i < ops.length := (List.getElem?_eq_some_iff.1 ho').1
    have hri : i < recs.length := by omega
    have hr : recs[i]? = some recs[i] := List.getElem?_eq_getElem hri
    generalize hrr : recs[i] = r at hr
    have hro : r.o = o := by
      have : (recs.map (·.o))[i]? = some r.o := by rw [List.getElem?_map, hr]; rfl
      rw [hops, ho'] at this; exact (Option.some.inj this).symm
    have hiS : listed.getD i false = false := by
      have hlt : i < listed.size := by omega
      simp [Array.getElem?_eq_getElem hlt] at hnot ⊢; exact hnot
    have hpre' : ∀ e, e ∈ o.after.toList → Region.binds .any e = true → listed.getD e.on false = true := fun e he hb => hpre e (Array.mem_toList_iff.1 he) hb
    -- those that clash with i: listed just if ahead
    have hclash : ∀ (j : Nat) (q : Rec), recs[j]? = some q → q.foot.clash r.foot = true ∨ r.foot.clash q.foot = true → j ≠ i → listed.getD j false = decide (j < i) := by
      intro j q hq hc hne
      have hfoot : ∀ (m : Nat) (p : Rec), recs[m]? = some p → (recs.map Rec.foot)[m]? = some p.foot := fun m p hp => by rw [List.getElem?_map, hp]; rfl
      have hsym : ∀ x y : Foot, x.clash y = true → y.clash x = true := by
        intro x y h
        cases hb : y.clash x with
        | true => rfl
        | false =>
          exfalso
          obtain ⟨k1, k2, k3, k4⟩ := clash_symm_not hb
          simp only [Foot.clash, Bool.or_eq_true, hits_iff] at h
          rcases h with ((((⟨t, h1, h2⟩ | ⟨t, h1, h2⟩) | ⟨t, h1, h2⟩) | ⟨t, h1, h2⟩) | ⟨t, h1, h2⟩) | ⟨t, h1, h2⟩
          · exact k2 t h1 h2
          · exact (k1 t h2).2 h1
          · exact (k1 t h1).1 h2
          · exact k4 t h1 h2
          · exact (k3 t h2).2 h1
          · exact (k3 t h1).1 h2
      have hc1 : q.foot.clash r.foot = true := hc.elim id (hsym _ _)
      have hc2 : r.foot.clash q.foot = true := hsym _ _ hc1
      by_cases hlt : j < i
      · simp only [hlt, decide_true]
        have hbit := calmAt_spec (recs.map Rec.foot) 0 hcalm j i q.foot r.foot (hfoot i r hr) (hfoot j q hq) (by omega) hc1
        rw [Nat.zero_add] at hbit
        exact ahead_in hcl i o ho' hpre' j hbit
      · simp only [hlt, decide_false]
        cases hb : listed.getD j false with
        | false => rfl
        | true =>
          exfalso
          have hjl : j < ops.length := by have := (List.getElem?_eq_some_iff.1 hq).1; omega
          have hbit := calmAt_spec (recs.map Rec.foot) 0 hcalm i j r.foot q.foot (hfoot j q hq) (hfoot i r hr) (by omega) hc2
          rw [Nat.zero_add] at hbit
          have := ahead_in hcl j _ (List.getElem?_eq_getElem hjl) (fun e he hbe => hcl j _ (List.getElem?_eq_getElem hjl) hb e he hbe) i hbit
          rw [hiS] at this; cases this
    have wT : ∀ (q : Rec) (t : Tmp), q.o.dst = some t → t ∈ q.foot.wt := fun q t h => by simp [Rec.foot, h]
    have okr : r.OK P N ops.toArray st := by
      refine (hat i r hr).of_same (fun t ht => ?_) (fun k hk => ?_)
      · rw [hst.1]
        refine runS_T recs 0 st0 st0 rfl fun j q hq hd => ?_
        rw [Nat.zero_add]
        by_cases e : j = i
        · subst e; rw [hiS]; simp
        · refine hclash j q hq (.inl ?_) e
          simp only [Foot.clash, Bool.or_eq_true, hits_iff]
          exact .inl (.inl (.inl (.inl (.inl ⟨t, wT q t hd, ht⟩))))
      · rw [hst.2]
        refine runS_H recs 0 st0 st0 rfl fun j q hq hd => ?_
        rw [Nat.zero_add]
        by_cases e : j = i
        · subst e; rw [hiS]; simp
        · refine hclash j q hq (.inl ?_) e
          simp only [Foot.clash, Bool.or_eq_true, hits_iff]
          exact .inl (.inl (.inr ⟨k, hd, hk⟩))
    unfold wpOp
    simp only [ho]
    have hstep := okr.ok B imm env st a w (wpAny P .any ops.toArray (lift B N Q) fuel (listed.setIfInBounds i true)) (lift B N Q) okr.h1 okr.h2 okr.h3 H
    rw [hro] at hstep
    refine hstep fun imm' env' a' w' H' => ?_
    have H'' : Holds B N imm' env' (r.app st) a' w' := by simpa only [Rec.app, hro] using H'
    have hset : ∀ j, j ≠ i → (listed.setIfInBounds i true).getD j false = listed.getD j false := fun j hj => getD_set_ne false (Ne.symm hj)
    have hseti : (listed.setIfInBounds i true).getD i false = true := by
      have hlt : i < listed.size := by omega
      simp [hlt]
    refine ih (listed.setIfInBounds i true) imm' env' a' w' (r.app st) H'' ⟨fun t => ?_, fun k => ?_⟩ ?_ (by simpa using hsz) (by have := left_set hnot ops.length hilt; omega)
    · by_cases hd : r.o.dst = some t
      · -- i is the last that writes t
        have e1 : look (runS (fun j => (listed.setIfInBounds i true).getD j false) 0 recs st0).T t = look (runS (fun j => decide (j < i + 1)) 0 recs st0).T t := by
          refine runS_T recs 0 st0 st0 rfl fun j q hq hdq => ?_
          rw [Nat.zero_add]
          by_cases e : j = i
          · subst e; rw [hseti]; simp
          · rw [hset j e]
            rw [hclash j q hq (.inl (by simp only [Foot.clash, Bool.or_eq_true, hits_iff]; exact .inl (.inl (.inl (.inl (.inr ⟨t, wT q t hdq, wT r t hd⟩)))))) e]
            by_cases h1 : j < i
            · simp [h1]; omega
            · have h2 : ¬ j < i + 1 := by omega
              simp [h1, h2]
        have e2 : runS (fun j => decide (j < i + 1)) 0 recs st0 = runS (fun j => decide (j < i + 1)) 0 (recs.take (i + 1)) st0 := by
          have key : ∀ (l1 l2 : List Rec) (b : Nat) (s : St), b + l1.length = i + 1 → runS (fun j => decide (j < i + 1)) b (l1 ++ l2) s = runS (fun j => decide (j < i + 1)) b l1 s := by
            intro l1
            induction l1 with
            | nil =>
              intro l2 b s hb
              simp only [List.nil_append, runS]
              simp only [List.length_nil, Nat.add_zero] at hb
              subst hb
              have : ∀ (l2 : List Rec) (b : Nat) (s : St), i + 1 ≤ b → runS (fun j => decide (j < i + 1)) b l2 s = s := by
                intro l2
                induction l2 with
                | nil => intro b s _; rfl
                | cons q l2 ih2 =>
                  intro b s hb
                  simp only [runS]
                  rw [show decide (b < i + 1) = false by simp; omega]
                  exact ih2 (b + 1) s (by omega)
              exact this l2 (i + 1) s (Nat.le_refl _)
            | cons q l1 ih1 =>
              intro l2 b s hb
              simp only [List.cons_append, runS]
              exact ih1 l2 (b + 1) _ (by simp only [List.length_cons] at hb; omega)
          have := key (recs.take (i + 1)) (recs.drop (i + 1)) 0 st0 (by rw [List.length_take]; omega)
          rwa [List.take_append_drop] at this
        have e3 : recs.take (i + 1) = recs.take i ++ [r] := by rw [List.take_succ_eq_append_getElem hri, hrr]
        rw [e1, e2, e3, runS_append]
        have e4 : decide (0 + (recs.take i).length < i + 1) = true := by rw [List.length_take]; simp; omega
        rw [e4]
        simp only [Rec.app, putT_look, hd, if_true]
      · rw [show look (r.app st).T t = look st.T t by simp only [Rec.app, putT_look, hd, if_false], hst.1]
        refine runS_T recs 0 st0 st0 rfl fun j q hq hdq => ?_
        rw [Nat.zero_add]
        by_cases e : j = i
        · subst e; rw [hr] at hq; cases hq; exact absurd hdq hd
        · rw [hset j e]
    · by_cases hd : k ∈ r.dh.map (·.1)
      · have e1 : look (runS (fun j => (listed.setIfInBounds i true).getD j false) 0 recs st0).H k = look (runS (fun j => decide (j < i + 1)) 0 recs st0).H k := by
          refine runS_H recs 0 st0 st0 rfl fun j q hq hdq => ?_
          rw [Nat.zero_add]
          by_cases e : j = i
          · subst e; rw [hseti]; simp
          · rw [hset j e]
            rw [hclash j q hq (.inl (by simp only [Foot.clash, Bool.or_eq_true, hits_iff]; exact .inl (.inr ⟨k, hdq, hd⟩))) e]
            by_cases h1 : j < i
            · simp [h1]; omega
            · have h2 : ¬ j < i + 1 := by omega
              simp [h1, h2]
        have e2 : runS (fun j => decide (j < i + 1)) 0 recs st0 = runS (fun j => decide (j < i + 1)) 0 (recs.take (i + 1)) st0 := by
          have key : ∀ (l1 l2 : List Rec) (b : Nat) (s : St), b + l1.length = i + 1 → runS (fun j => decide (j < i + 1)) b (l1 ++ l2) s = runS (fun j => decide (j < i + 1)) b l1 s := by
            intro l1
            induction l1 with
            | nil =>
              intro l2 b s hb
              simp only [List.nil_append, runS]
              simp only [List.length_nil, Nat.add_zero] at hb
              subst hb
              have : ∀ (l2 : List Rec) (b : Nat) (s : St), i + 1 ≤ b → runS (fun j => decide (j < i + 1)) b l2 s = s := by
                intro l2
                induction l2 with
                | nil => intro b s _; rfl
                | cons q l2 ih2 =>
                  intro b s hb
                  simp only [runS]
                  rw [show decide (b < i + 1) = false by simp; omega]
                  exact ih2 (b + 1) s (by omega)
              exact this l2 (i + 1) s (Nat.le_refl _)
            | cons q l1 ih1 =>
              intro l2 b s hb
              simp only [List.cons_append, runS]
              exact ih1 l2 (b + 1) _ (by simp only [List.length_cons] at hb; omega)
          have := key (recs.take (i + 1)) (recs.drop (i + 1)) 0 st0 (by rw [List.length_take]; omega)
          rwa [List.take_append_drop] at this
        have e3 : recs.take (i + 1) = recs.take i ++ [r] := by rw [List.take_succ_eq_append_getElem hri, hrr]
        have e5 : look (runS (fun j => decide (j < i + 1)) 0 (recs.take i) st0).H k = look st.H k := by
          -- all that write k ahead of i are listed; none behind is
          have e6 : look (runS (fun j => decide (j < i)) 0 recs st0).H k = look (runS (fun j => decide (j < i + 1)) 0 (recs.take i) st0).H k := by
            have key2 : ∀ (l1 l2 : List Rec) (b : Nat) (s : St), b + l1.length ≤ i → b + l1.length = i ∨ l2 = [] → runS (fun j => decide (j < i)) b (l1 ++ l2) s = runS (fun j => decide (j < i + 1)) b l1 s := by
              intro l1
              induction l1 with
              | nil =>
                intro l2 b s hb hor
                simp only [List.nil_append, runS]
                rcases hor with hor | hor
                · simp only [List.length_nil, Nat.add_zero] at hor
                  subst hor
                  have : ∀ (l2 : List Rec) (c : Nat) (s : St), b ≤ c → runS (fun j => decide (j < b)) c l2 s = s := by
                    intro l2
                    induction l2 with
                    | nil => intro c s _; rfl
                    | cons q l2 ih2 =>
                      intro c s hc
                      simp only [runS]
                      rw [show decide (c < b) = false by simp; omega]
                      exact ih2 (c + 1) s (by omega)
                  exact this l2 b s (Nat.le_refl _)
                · rw [hor]; rfl
              | cons q l1 ih1 =>
                intro l2 b s hb hor
                simp only [List.cons_append, runS]
                simp only [List.length_cons] at hb hor
                rw [show decide (b < i) = true by simp; omega, show decide (b < i + 1) = true by simp; omega]
                exact ih1 l2 (b + 1) _ (by omega) (hor.imp (fun h => by omega) id)
            have := key2 (recs.take i) (recs.drop i) 0 st0 (by rw [List.length_take]; omega) (.inl (by rw [List.length_take]; omega))
            rw [List.take_append_drop] at this
            rw [this]
          rw [← e6, hst.2]
          refine runS_H recs 0 st0 st0 rfl fun j q hq hdq => ?_
          rw [Nat.zero_add]
          by_cases e : j = i
          · subst e; rw [hiS]; simp
          · exact (hclash j q hq (.inl (by simp only [Foot.clash, Bool.or_eq_true, hits_iff]; exact .inl (.inr ⟨k, hdq, hd⟩))) e).symm
        rw [e1, e2, e3, runS_append]
        have e4 : decide (0 + (recs.take i).length < i + 1) = true := by rw [List.length_take]; simp; omega
        rw [e4]
        simp only [Rec.app, look_append, e5]
      · rw [show look (r.app st).H k = look st.H k by simp only [Rec.app, look_append, look_none_keys hd], hst.2]
        refine runS_H recs 0 st0 st0 rfl fun j q hq hdq => ?_
        rw [Nat.zero_add]
        by_cases e : j = i
        · subst e; rw [hr] at hq; cases hq; exact absurd hdq hd
        · rw [hset j e]
    · intro j oj hj hS e he hbe
      by_cases ej : j = i
      · subst ej
        rw [ho'] at hj; cases hj
        have h1 := hpre' e he hbe
        by_cases e2 : e.on = j
        · rw [e2]; exact hseti
        · show (listed.setIfInBounds j true).getD e.on false = true
          rw [hset _ e2]; exact h1
      · have h1 : listed.getD j false = true := by
          have : (listed.setIfInBounds i true).getD j false = true := hS
          rwa [hset j ej] at this
        have h2 := hcl j oj hj h1 e he hbe
        show (listed.setIfInBounds i true).getD e.on false = true
        by_cases e2 : e.on = i
        · rw [e2]; exact hseti
        · rw [hset _ e2]; exact h2

/-- A region whose order is open, walked in the text's order. -/
structure WD (P : Program) (N : Nat) (id : Nat) (ops : List Oper) (st0 : St) (fs : List Foot) (rest : List Oper) (st : St) (Q : Exit → St → Prop) : Prop where
  h : ∀ recs, Chain P N ops.toArray recs st0 st → recs.map Rec.foot = fs → recs.map (·.o) ++ rest = ops → W P N (.region id ops.toArray true) st0 Q

section
variable {P : Program} {N : Nat} {id : Nat} {ops rest : List Oper} {st0 st : St} {fs : List Foot} {O : Type} {Q : O → Exit → St → Prop}

theorem X.draw (h : ∃ z, WD P N id ops st0 [] ops st0 (Q z)) : ∃ z, W P N (.region id ops.toArray true) st0 (Q z) := by
  obtain ⟨z, h⟩ := h
  exact ⟨z, h.h [] (.nil _) rfl rfl⟩

theorem XD.step {o : Oper} {ro : List (Operand × V)} {rh : List (Nat × Ob)} {fr : List Nat} {x : V} {dh : List (Nat × Option Ob)} (hok : OpOK P N ops.toArray o ro rh fr x dh)
    (h1 : AllP (fun p => ev st.T p.1 = some p.2) ro) (h2 : AllP (fun p => lookH st.H p.1 = some p.2) rh) (h3 : AllP (fun k => look st.H k = none) fr)
    (h : ∃ z, WD P N id ops st0 (fs ++ [⟨ro.flatMap fun p => tmpOf p.1, rh.map (·.1) ++ fr, o.dst.toList, dh.map (·.1)⟩]) rest ⟨putT o.dst x st.T, dh ++ st.H⟩ (Q z)) : ∃ z, WD P N id ops st0 fs (o :: rest) st (Q z) := by
  obtain ⟨z, h⟩ := h
  refine ⟨z, ⟨fun recs hch hf ho => ?_⟩⟩
  refine h.h (recs ++ [⟨o, ro, rh, fr, x, dh⟩]) (hch.snoc (r := ⟨o, ro, rh, fr, x, dh⟩) ⟨hok, h1, h2, h3⟩) ?_ ?_
  · simp [hf, Rec.foot]
  · simp [ho]

theorem XD.split (t : Nat) {b : Bool} (_h : look st.T t = some (.v (.bool b))) (h1 : b = true → ∃ z, WD P N id ops st0 fs rest st (Q z)) (h2 : b = false → ∃ z, WD P N id ops st0 fs rest st (Q z)) : ∃ z, WD P N id ops st0 fs rest st (Q z) := by
  cases b
  · exact h2 rfl
  · exact h1 rfl

theorem XD.done (hm : P.follows .mixedOrders = true) (hc : calm ops fs = true) (h : ∃ z, Q z .normal st) : ∃ z, WD P N id ops st0 fs [] st (Q z) := by
  obtain ⟨z, h⟩ := h
  refine ⟨z, ⟨fun recs hch hf ho => ?_⟩⟩
  rw [List.append_nil] at ho
  refine ⟨fun B imm env a w H => wp_region_any hm ?_⟩
  have hz : ∀ i, (Array.replicate ops.length false).getD i false = false := fun i => by
    simp only [Array.getD_eq_getD_getElem?, Array.getElem?_replicate]; split <;> rfl
  have H0 : Holds B N imm env st0 a { w with drawn := w.drawn + 1 } := H.world rfl rfl rfl rfl
  have := draw_sound (Q := Q z) (B := B) hch ho (by rw [hf]; exact hc) h ops.length (Array.replicate ops.length false) imm env a _ st0 H0 ?_ ?_ (by simp) ?_
  · simpa using this
  · have e : ∀ (rs : List Rec) (b : Nat) (s : St), runS (fun i => (Array.replicate ops.length false).getD i false) b rs s = s := by
      intro rs
      induction rs with
      | nil => intro b s; rfl
      | cons r rs ih =>
        intro b s
        show runS _ (b + 1) rs (match (Array.replicate ops.length false).getD b false with | true => r.app s | false => s) = s
        rw [hz]; exact ih _ _
    rw [e]; exact ⟨fun _ => rfl, fun _ => rfl⟩
  · intro j o _ hj; simp only [hz] at hj; cases hj
  · have : ∀ n, left (Array.replicate ops.length false) n ≤ n := by
      intro n
      induction n with
      | zero => exact Nat.le_refl _
      | succ n ih => simp only [left]; split <;> omega
    exact this _
end

end Go.X
