/- Contracts of functions: what comes of data, whatever the world; how a body pays them, how a call uses them. No program in sight. -/
import Derived.Test.YtlgaegjlgabggaaGreatXE
namespace Go.X
open Go

def wrOf (env : Env) (H : List (Nat × Option Ob)) (b : Nat) : Prop := ∃ k ob r, lookH H k = some ob ∧ env k = some r ∧ r.nil = false ∧ r.blk = b

structure After (imm : Imm) (env : Env) (w : World) (Hin : List (Nat × Option Ob)) (out : V) (Hout : List (Nat × Option Ob)) (v : Value) (w' : World) (imm' : Imm) (env' : Env) : Prop where
  rep : RepV imm' env' w' out v
  heap : HeapOk imm' env' Hout w'
  keep : Keep w (wrOf env Hin) w'
  immok : ∀ b, imm' b → imm b ∨ w.heap.size ≤ b ∨ wrOf env Hin b
  own : ∀ k ob r, lookH Hout k = some ob → env' k = some r → r.nil = false → wrOf env Hin r.blk ∨ w.heap.size ≤ r.blk
  agree : ∀ k r s, env' k = some r → env k = some s → r = s

/-- THE CONTRACT: of arguments that read so, with objects that stand so, this comes, and the objects stand so. -/
structure Spec (P : Program) (f : FuncId) (args : List V) (Hin : List (Nat × Option Ob)) (out : V) (Hout : List (Nat × Option Ob)) : Prop where
  h : ∀ (imm : Imm) (env : Env) (w : World) (vs : List Value), RepL (RepV imm env w) args vs → HeapOk imm env Hin w →
    Calls P f vs.toArray w fun e w' => ∃ v imm' env', e = .returned v ∧ After imm env w Hin out Hout v w' imm' env'

/- RESULTS. -/
def resOne (tmps : Array Value) : ResultVar → Sem Value
  | .tmp t => pure (tmps.getD t undef)
  | .cell a t => do loadVar t (← asAddr (tmps.getD a undef))

inductive ResIs (P : Program) (st : St) : ResultVar → V → Prop
  | tmp (t : Tmp) (y : V) (h : look st.T t = some y) (hy : y.noTup = true) : ResIs P st (.tmp t) y
  | cellA (t : Tmp) (ty : TypeId) (k off sz : Nat) (ob : Ob) (y : V) (h : look st.T t = some (.ptr k off)) (ho : lookH st.H k = some ob) (hag : ∀ w, (isAgg ty).run P w = .ok true w) (hsz : ∀ w, (sizeOf ty).run P w = .ok sz w)
      (hat : V.at sz ob.c off = some y) (hy : y.isAgg = true) : ResIs P st (.cell t ty) y
  | cell1 (t : Tmp) (ty : TypeId) (k off : Nat) (ob : Ob) (y : V) (h : look st.T t = some (.ptr k off)) (ho : lookH st.H k = some ob) (hag : ∀ w, (isAgg ty).run P w = .ok false w)
      (hat : V.leaf ob.c off = some y) : ResIs P st (.cell t ty) y

theorem ResIs.run {P : Program} {B : Base} {N : Nat} {imm : Imm} {env : Env} {st : St} {a : Act} {w : World} (H : Holds B N imm env st a w) {r : ResultVar} {y : V} (h : ResIs P st r y) :
    ∃ v, (resOne a.tmps r).run P w = .ok v w ∧ RepC imm env w y v := by
  cases h with
  | tmp t y h hy =>
    obtain ⟨u, h1, h2⟩ := H.tmps t y h
    exact ⟨u, by simp [resOne, h1], RepC_of_V (V.noTup_ne hy) h2⟩
  | cellA t ty k off sz ob y h ho hag hsz hat hy =>
    obtain ⟨u, h1, r, hr, hn, rfl⟩ := H.tmps t _ h
    obtain ⟨arr, R⟩ := H.objR ho hr hn
    obtain ⟨h3, h4, h5, h6⟩ := V.at_spec R.ok hat
    obtain ⟨cs, hl, hrep, hc⟩ := R.cells h6 h5
    refine ⟨.agg cs.toArray, ?_, ?_⟩
    · have := run_loadCells_list (P := P) w ⟨r.blk, off, none⟩ cs (fun j v hj => by rw [addr_add]; exact hc j v hj)
      rw [hl] at this
      simp [resOne, h1, asAddr, loadVar, hag, hsz, this]
    · refine RepC.of_cells h3 hrep ?_
      cases y <;> simp [V.isAgg] at hy <;> simp
  | cell1 t ty k off ob y h ho hag hat =>
    obtain ⟨u, h1, r, hr, hn, rfl⟩ := H.tmps t _ h
    obtain ⟨arr, R⟩ := H.objR ho hr hn
    obtain ⟨h3, h4, h5⟩ := V.leaf_spec R.ok hat
    obtain ⟨u, hu, hrep⟩ := R.rep.2 _ _ h5
    have hc : w.cell? ⟨r.blk, off, none⟩ = some u := by
      rw [cell_of_row w r.blk _ arr _ _ R.blk]
      rw [List.getElem?_take, if_pos h4] at hu
      simpa using hu
    refine ⟨u, by simp [resOne, h1, asAddr, loadVar, hag, hc], ?_⟩
    cases y <;> first | exact hrep | (simp [V.isOne] at h3)

theorem results_eq (fn : Func) (tmps : Array Value) : results fn tmps = (do let vs ← fn.results.mapM (resOne tmps); pure (if h : vs.size = 1 then vs[0] else .tuple vs)) := by
  unfold results
  congr

inductive RessIs (P : Program) (st : St) : List ResultVar → List V → Prop
  | nil : RessIs P st [] []
  | cons {r : ResultVar} {y : V} {rs : List ResultVar} {ys : List V} (h : ResIs P st r y) (t : RessIs P st rs ys) : RessIs P st (r :: rs) (y :: ys)

def outV : List V → V
  | [y] => y
  | l => .tup l

theorem RessIs.run {P : Program} {B : Base} {N : Nat} {imm : Imm} {env : Env} {st : St} {a : Act} {w : World} (H : Holds B N imm env st a w) {fn : Func} {rs : List ResultVar} (hrs : fn.results = rs.toArray) {ys : List V} (h : RessIs P st rs ys) :
    rs.length ≤ 4 → ∃ v, (results fn a.tmps).run P w = .ok v w ∧ RepV imm env w (outV ys) v := by
  intro hl
  cases h with
  | nil => exact ⟨.tuple #[], by simp [results, hrs], #[], rfl, RepL.nil _⟩
  | cons h1 t =>
    obtain ⟨v1, r1, p1⟩ := h1.run H
    cases t with
    | nil =>
      refine ⟨v1, ?_, RepV_of_C p1⟩
      simp [results_eq, hrs, r1]
    | cons h2 t =>
      obtain ⟨v2, r2, p2⟩ := h2.run H
      cases t with
      | nil =>
        refine ⟨.tuple #[v1, v2], ?_, #[v1, v2], rfl, ((RepL.nil _).cons p2).cons p1⟩
        simp [results_eq, hrs, r1, r2]
      | cons h3 t =>
        obtain ⟨v3, r3, p3⟩ := h3.run H
        cases t with
        | nil =>
          refine ⟨.tuple #[v1, v2, v3], ?_, #[v1, v2, v3], rfl, (((RepL.nil _).cons p3).cons p2).cons p1⟩
          simp [results_eq, hrs, r1, r2, r3]
        | cons h4 t =>
          obtain ⟨v4, r4, p4⟩ := h4.run H
          cases t with
          | nil =>
            refine ⟨.tuple #[v1, v2, v3, v4], ?_, #[v1, v2, v3, v4], rfl, ((((RepL.nil _).cons p4).cons p3).cons p2).cons p1⟩
            simp [results_eq, hrs, r1, r2, r3, r4]
          | cons => simp at hl

def enumT : Nat → List V → List (Nat × V)
  | _, [] => []
  | i, x :: r => (i, x) :: enumT (i + 1) r

theorem look_enumT : ∀ (l : List V) (i j : Nat) (x : V), l[j]? = some x → look (enumT i l) (i + j) = some x
  | [], i, j, x, h => by simp at h
  | y :: r, i, j, x, h => by
    simp only [enumT]
    rw [look_cons]
    cases j with
    | zero => simp at h; simp [h]
    | succ j =>
      rw [if_neg (by omega)]
      have := look_enumT r (i + 1) j x (by simpa using h)
      rwa [show i + (j + 1) = i + 1 + j by omega]
theorem look_enumT_lt : ∀ (l : List V) (i j : Nat) (x : V), look (enumT i l) j = some x → i ≤ j ∧ l[j - i]? = some x
  | [], i, j, x, h => by simp [enumT, look] at h
  | y :: r, i, j, x, h => by
    simp only [enumT] at h
    rw [look_cons] at h
    by_cases e : i = j
    · rw [if_pos e] at h; cases h; subst e; simp
    · rw [if_neg e] at h
      obtain ⟨h1, h2⟩ := look_enumT_lt r (i + 1) j x h
      refine ⟨by omega, ?_⟩
      rw [show j - i = (j - (i + 1)) + 1 by omega]
      simpa using h2

/-- What a body must come to: results, and what is told of the objects. -/
def RetQ (P : Program) (rs : List ResultVar) (outs : List V) (Hout : List (Nat × Option Ob)) : Exit → St → Prop :=
  fun e st => (e = .ret ∨ e = .normal) ∧ ∃ ys, RessIs P st rs ys ∧ ys.length = outs.length ∧ Less ⟨enumT 0 ys, st.H⟩ ⟨enumT 0 outs, Hout⟩

theorem RepL_enum {imm : Imm} {env : Env} {w : World} {ys : List V} {us : List Value} (h : RepL (RepV imm env w) ys us) : ∀ t x, look (enumT 0 ys) t = some x → ∃ u, us.toArray[t]? = some u ∧ RepV imm env w x u := by
  intro t x hx
  obtain ⟨_, h2⟩ := look_enumT_lt ys 0 t x hx
  obtain ⟨u, h3, h4⟩ := h.2 t x (by simpa using h2)
  exact ⟨u, by simpa using h3, h4⟩

/-- Results read as less. -/
theorem rep_outs {imm : Imm} {env : Env} {w : World} {ys outs : List V} {v : Value} {H : List (Nat × Option Ob)} {Hout : List (Nat × Option Ob)} (hn : ∀ y, y ∈ ys → y.noTup = true) (hn2 : ∀ y, y ∈ outs → y.noTup = true) (hl : ys.length = outs.length)
    (l : Less ⟨enumT 0 ys, H⟩ ⟨enumT 0 outs, Hout⟩) (h : RepV imm env w (outV ys) v) : RepV imm (env.only (keysH Hout)) w (outV outs) v := by
  have key : ∀ (i : Nat) x u, outs[i]? = some x → ys[i]? ≠ none → (∀ y, ys[i]? = some y → RepV imm env w y u) → RepV imm (env.only (keysH Hout)) w x u := by
    intro i x u hx hy hr
    have hm := look_mem (by simpa using look_enumT outs 0 i x hx)
    obtain ⟨y, hy1, hy2⟩ := l.T.mem _ hm
    obtain ⟨_, hy3⟩ := look_enumT_lt ys 0 i y hy1
    exact RepV.only (l.ct.mem _ hm) (hy2 _ _ _ _ (hr y (by simpa using hy3)))
  have tup : ∀ (ys outs : List V), ys.length = outs.length → (∀ y, y ∈ ys → y.noTup = true) → (∀ y, y ∈ outs → y.noTup = true) → (∀ (i : Nat) x u, outs[i]? = some x → ys[i]? ≠ none → (∀ y, ys[i]? = some y → RepV imm env w y u) → RepV imm (env.only (keysH Hout)) w x u) →
      RepV imm env w (.tup ys) v → RepV imm (env.only (keysH Hout)) w (.tup outs) v := by
    intro ys outs hl hn hn2 key h
    obtain ⟨arr, rfl, h1, h2⟩ := h
    refine ⟨arr, rfl, by rw [h1, hl], fun i x hx => ?_⟩
    have hi : i < ys.length := by rw [hl]; exact (List.getElem?_eq_some_iff.1 hx).1
    obtain ⟨u, hu, hr⟩ := h2 i _ (List.getElem?_eq_getElem hi)
    exact ⟨u, hu, RepC_of_V (V.noTup_ne (hn2 x (List.mem_of_getElem? hx))) (key i x u hx (by simp [List.getElem?_eq_getElem hi]) fun y hy => by
      rw [List.getElem?_eq_getElem hi] at hy; cases hy; exact RepV_of_C hr)⟩
  match ys, outs, hl with
  | [], [], _ => exact tup [] [] rfl (by simp) (by simp) (by simp) h
  | [y], [o], _ => exact key 0 o v rfl (by simp) fun z hz => by simp at hz; subst hz; exact h
  | y1 :: y2 :: yr, o1 :: o2 :: or', hl => exact tup _ _ hl hn hn2 key h

theorem ResIs.noTup {P : Program} {st : St} {r : ResultVar} {y : V} (h : ResIs P st r y) : y.noTup = true := by
  cases h with
  | tmp t y h hy => exact hy
  | cellA t ty k off sz ob y h ho hag hsz hat hy => cases y <;> first | rfl | (simp [V.isAgg] at hy)
  | cell1 t ty k off ob y h ho hag hat =>
    cases y with
    | tup l =>
      exfalso
      have : ∀ (x : V) (off : Nat), V.leaf x off ≠ some (.tup l) := by
        intro x
        have hx : ∀ x : V, ∀ off, V.leaf x off ≠ some (.tup l) := by
          intro x
          refine V.rec (motive_1 := fun x => ∀ off, V.leaf x off ≠ some (.tup l)) (motive_2 := fun ls => ∀ off, V.leafs ls off ≠ some (.tup l)) ?_ ?_ ?_ ?_ ?_ ?_ ?_ ?_ ?_ ?_ ?_ ?_ ?_ ?_ x
          all_goals first
            | (intro fs ih off; simp only [V.leaf]; exact ih off)
            | (intro off; simp [V.leafs]; done)
            | (intros; simp only [V.leaf]; split <;> simp; done)
            | (intros; simp [V.leaf]; done)
            | (intro x r ih1 ih2 off; simp only [V.leafs]; split <;> first | exact ih1 _ | exact ih2 _)
        exact hx x
      exact this _ _ hat
    | _ => rfl
theorem RessIs.noTup {P : Program} {st : St} {rs : List ResultVar} {ys : List V} (h : RessIs P st rs ys) : ∀ y, y ∈ ys → y.noTup = true := by
  induction h with
  | nil => simp
  | cons h t ih =>
    intro y hy
    cases hy with
    | head => exact h.noTup
    | tail _ hy => exact ih y hy

def allNoTup (l : List V) : Bool := l.all V.noTup
def all1000 (H : List (Nat × Option Ob)) : Bool := H.all fun p => Nat.ble 1000 p.1

theorem RetQ.ret {P : Program} {rs : List ResultVar} {ys outs : List V} {Hout : List (Nat × Option Ob)} {st : St} (h : RessIs P st rs ys) (hl : ys.length = outs.length) (l : Less ⟨enumT 0 ys, st.H⟩ ⟨enumT 0 outs, Hout⟩) : RetQ P rs outs Hout .ret st := ⟨.inl rfl, ys, h, hl, l⟩
theorem RetQ.normal {P : Program} {rs : List ResultVar} {ys outs : List V} {Hout : List (Nat × Option Ob)} {st : St} (h : RessIs P st rs ys) (hl : ys.length = outs.length) (l : Less ⟨enumT 0 ys, st.H⟩ ⟨enumT 0 outs, Hout⟩) : RetQ P rs outs Hout .normal st := ⟨.inr rfl, ys, h, hl, l⟩

/-- A body pays its contract. -/
theorem Spec.of_body {P : Program} {f : FuncId} {fn : Func} {c : Code} {N n : Nat} {rs : List ResultVar} (hf : P.funcs[f]? = some fn) (hb : fn.body = some c) (hN : fn.ntmps = N) (hr : fn.results = rs.toArray) (hrl : Nat.ble rs.length 4 = true)
    {O : Type} {args : List V} {Hin : List (Nat × Option Ob)} {outs : O → List V} {Hout : O → List (Nat × Option Ob)} (hn : args.length = n) (hnN : Nat.ble n N = true) (hlo : all1000 Hin = true) (hnt : ∀ z, allNoTup (outs z) = true)
    (h : ∃ z, W P N c ⟨enumT 0 args, Hin⟩ (RetQ P rs (outs z) (Hout z))) : ∃ z, Spec P f args Hin (outV (outs z)) (Hout z) := by
  obtain ⟨z, h⟩ := h
  refine ⟨z, ⟨fun imm env w vs hv hH => ?_⟩⟩
  have hvl : vs.length = n := hv.1.trans hn
  refine calls_of_wp hf hb ?_
  rw [hN]
  have hle : n ≤ N := Nat.ble_eq ▸ hnN
  let B : Base := ⟨w, wrOf env Hin, imm, env, fun k r hk => by
    have := hH.dom k r hk
    cases e : look Hin k with
    | none => exact absurd e this
    | some o =>
      have hm := look_mem e
      unfold all1000 at hlo
      have h2 := List.all_eq_true.1 hlo _ hm
      exact Nat.ble_eq ▸ h2⟩
  have H0 : Holds B N imm env ⟨enumT 0 args, Hin⟩ { tmps := vs.toArray ++ Array.replicate (N - vs.toArray.size) undef, defers := [] } w := by
    refine ⟨fun t x hx => ?_, hH, fun b hb => .inl hb, fun k ob r hk hr hn => .inl ⟨k, ob, r, hk, hr, hn, rfl⟩, ⟨rfl, rfl, rfl, Nat.le_refl _, fun _ _ _ => rfl⟩, fun k r s hr hs => by have hs : env k = some s := hs; rw [hr] at hs; exact (Option.some.inj hs), ?_, rfl⟩
    · obtain ⟨u, h1, h2⟩ := RepL_enum hv t x hx
      refine ⟨u, ?_, h2⟩
      have hlt : t < vs.toArray.size := (Array.getElem?_eq_some_iff.1 h1).1
      rw [Array.getElem?_append_left hlt]
      exact h1
    · simp [hvl]; omega
  refine wp_mono (h.h B imm env _ w H0) ?_
  rintro e a' w' ⟨imm', env', st', H', he, ys, hys, hyl, l⟩
  obtain ⟨v, hrun, hrep⟩ := hys.run H' hr (Nat.ble_eq ▸ hrl)
  have hpost : bodyPost P fn (fun e w' => ∃ v imm' env', e = .returned v ∧ After imm env w Hin (outV (outs z)) (Hout z) v w' imm' env') .ret a' w' := by
    refine ⟨H'.nodef, v, hrun, v, imm', env'.only (keysH (Hout z)), rfl, ?_⟩
    have H2 : Holds B N imm' env' ⟨[], st'.H⟩ a' w' := ⟨fun t x hx => by simp [look] at hx, H'.heap, H'.immok, H'.own, H'.keep, H'.agree, H'.ntmps, H'.nodef⟩
    have lh : Less ⟨[], st'.H⟩ ⟨[], Hout z⟩ := ⟨trivial, l.H, trivial, l.ch⟩
    have H3 := H2.less lh
    refine ⟨?_, H3.heap, H3.keep, H3.immok, H3.own, H3.agree⟩
    exact rep_outs hys.noTup (fun y hy => List.all_eq_true.1 (hnt z) y hy) hyl l hrep
  rcases he with rfl | rfl
  · exact hpost
  · exact hpost

end Go.X
