/- Steps for a printer of walks: calls whose outcome is only known to be there; loops with a part that stays. No program in sight. -/
import Derived.Test.YtlgaegjlgabggaaGreatXJ
namespace Go.X
open Go

theorem Less.mk2 {st : St} (T' : List (Nat × V)) (H' : List (Nat × Option Ob)) (T : AllP (fun p => ∃ y, look st.T p.1 = some y ∧ Ent y p.2) T') (H : AllP (fun p => match p.2 with | some ob => ∃ o, look st.H p.1 = some (some o) ∧ EntO o ob | none => True) H')
    (ct : amongT (keysH H') T' = true) (ch : amongH (keysH H') H' = true) : Less st ⟨T', H'⟩ := Less.mk' T H ct ch

section
variable {P : Program} {N : Nat} {st : St} {O : Type} {Q : O → Exit → St → Prop}

/-- A loop: what stays, what changes. -/
theorem X.loopF {c : Code} {α : Type} (T0 : List (Nat × V)) (H0 : List (Nat × Option Ob)) (Tv : α → List (Nat × V)) (Hv : α → List (Nat × Option Ob)) (I : α → Prop) (μ : α → Nat) (a : α)
    (l : Less st ⟨List.append (Tv a) T0, List.append (Hv a) H0⟩) (hi : I a)
    (round : ∀ (n : Nat) (a : α), I a → μ a < n + 1 → (∀ b, I b → μ b < n → ∃ z, WR P N c n ⟨List.append (Tv b) T0, List.append (Hv b) H0⟩ (Q z)) → ∃ z, W P N c ⟨List.append (Tv a) T0, List.append (Hv a) H0⟩ (thenQ (fun s => WR P N c n s (Q z)) (Q z))) : ∃ z, W P N (.loop c) st (Q z) :=
  X.loopI (fun a => ⟨List.append (Tv a) T0, List.append (Hv a) H0⟩) I μ a hi l round

/-- Two ways that meet again: what holds where they meet. -/
theorem X.join {c d : Code} {α : Type} (T0 : List (Nat × V)) (H0 : List (Nat × Option Ob)) (Tv : α → List (Nat × V)) (Hv : α → List (Nat × Option Ob)) (I : α → Prop)
    (after : ∀ a, I a → ∃ z, W P N d ⟨List.append (Tv a) T0, List.append (Hv a) H0⟩ (Q z))
    (hc : (∀ b, I b → ∃ z, W P N d ⟨List.append (Tv b) T0, List.append (Hv b) H0⟩ (Q z)) → ∃ z, W P N c st (thenQ (fun s => W P N d s (Q z)) (Q z))) : ∃ z, W P N (.seq c d) st (Q z) :=
  X.seq (hc after)
end

section
variable {P : Program} {N : Nat} {ops : Array Oper} {rest : List Oper} {T : List (Nat × V)} {H : List (Nat × Option Ob)} {O O' : Type} {Q : O → Exit → St → Prop}
variable {d : Nat} {ty : TypeId} {pos : String} {after : Array Edge}

theorem XS.callP (f : FuncId) (xs : List Operand) (tys : Array TypeId) (ys : List V) (out : O' → V) (hc : ∀ args w, (callFunc f args).run P w = .ok (.enter f args) w) (hs : ∃ z, X.Spec P f ys [] (out z) [])
    (hd : dlt N (some d) = true) (h1 : AllP (fun p => ev T p.1 = some p.2) (zipO xs ys)) (hl : xs.length = ys.length) (hy : V.amongs [] ys = true) (ho : ∀ z, V.among [] (out z) = true)
    (k : ∀ z', ∃ z, WS P N ops rest ⟨(d, out z') :: T, H⟩ (Q z)) : ∃ z, WS P N ops (⟨some d, .call { callee := .value (.func f), args := xs.toArray, argTypes := tys }, ty, pos, after, none⟩ :: rest) ⟨T, H⟩ (Q z) := by
  obtain ⟨z', S⟩ := hs
  exact XS.step (st := ⟨T, H⟩) (OpOK.plain (OpRun.callP f xs tys ys (out z') hd hc S hy (ho z') hl) rfl) h1 trivial trivial (k z')

theorem XS.callG (f : FuncId) (xs : List Operand) (tys : Array TypeId) (ys : List V) (out : O' → V) (hc : ∀ args w, (callFunc f args).run P w = .ok (.enter f args) w) (hs : ∃ z, X.Spec P f ys [] (out z) [])
    (hd : dlt N (some d) = true) (h1 : AllP (fun p => ev T p.1 = some p.2) (zipO xs ys)) (hl : xs.length = ys.length) (hy : V.amongs [] ys = true) (ho : ∀ z, V.among [] (out z) = true)
    {j : Nat} {t : Tmp} {b want : Bool} (hj : (ops[j]?).bind (·.dst) = some t) (hb : b = want) (ht : ev T (.tmp t) = some (.v (.bool b)))
    (k : ∀ z', ∃ z, WS P N ops rest ⟨(d, out z') :: T, H⟩ (Q z)) : ∃ z, WS P N ops (⟨some d, .call { callee := .value (.func f), args := xs.toArray, argTypes := tys }, ty, pos, after, some (j, want)⟩ :: rest) ⟨T, H⟩ (Q z) := by
  obtain ⟨z', S⟩ := hs
  exact XS.step (st := ⟨T, H⟩) (OpOK.guarded (OpRun.callP f xs tys ys (out z') hd hc S hy (ho z') hl) rfl hj hb) ⟨ht, h1⟩ trivial trivial (k z')
end

section
variable {P : Program} {N : Nat} {id : Nat} {ops rest : List Oper} {st0 : St} {fs : List Foot} {T : List (Nat × V)} {H : List (Nat × Option Ob)} {O O' : Type} {Q : O → Exit → St → Prop}
variable {d : Nat} {ty : TypeId} {pos : String} {after : Array Edge}

theorem XD.callP (f : FuncId) (xs : List Operand) (tys : Array TypeId) (ys : List V) (out : O' → V) (hc : ∀ args w, (callFunc f args).run P w = .ok (.enter f args) w) (hs : ∃ z, X.Spec P f ys [] (out z) [])
    (hd : dlt N (some d) = true) (h1 : AllP (fun p => ev T p.1 = some p.2) (zipO xs ys)) (hl : xs.length = ys.length) (hy : V.amongs [] ys = true) (ho : ∀ z, V.among [] (out z) = true)
    (k : ∀ z', ∃ z, WD P N id ops st0 (fs ++ [⟨(zipO xs ys).flatMap fun p => tmpOf p.1, [], [d], []⟩]) rest ⟨(d, out z') :: T, H⟩ (Q z)) : ∃ z, WD P N id ops st0 fs (⟨some d, .call { callee := .value (.func f), args := xs.toArray, argTypes := tys }, ty, pos, after, none⟩ :: rest) ⟨T, H⟩ (Q z) := by
  obtain ⟨z', S⟩ := hs
  exact XD.step (st := ⟨T, H⟩) (OpOK.plain (OpRun.callP f xs tys ys (out z') hd hc S hy (ho z') hl) rfl) h1 trivial trivial (k z')

theorem XD.callG (f : FuncId) (xs : List Operand) (tys : Array TypeId) (ys : List V) (out : O' → V) (hc : ∀ args w, (callFunc f args).run P w = .ok (.enter f args) w) (hs : ∃ z, X.Spec P f ys [] (out z) [])
    (hd : dlt N (some d) = true) (h1 : AllP (fun p => ev T p.1 = some p.2) (zipO xs ys)) (hl : xs.length = ys.length) (hy : V.amongs [] ys = true) (ho : ∀ z, V.among [] (out z) = true)
    {j : Nat} {t : Tmp} {b want : Bool} (hj : (ops.toArray[j]?).bind (·.dst) = some t) (hb : b = want) (ht : ev T (.tmp t) = some (.v (.bool b)))
    (k : ∀ z', ∃ z, WD P N id ops st0 (fs ++ [⟨t :: (zipO xs ys).flatMap fun p => tmpOf p.1, [], [d], []⟩]) rest ⟨(d, out z') :: T, H⟩ (Q z)) : ∃ z, WD P N id ops st0 fs (⟨some d, .call { callee := .value (.func f), args := xs.toArray, argTypes := tys }, ty, pos, after, some (j, want)⟩ :: rest) ⟨T, H⟩ (Q z) := by
  obtain ⟨z', S⟩ := hs
  exact XD.step (st := ⟨T, H⟩) (OpOK.guarded (OpRun.callP f xs tys ys (out z') hd hc S hy (ho z') hl) rfl hj hb) ⟨ht, h1⟩ trivial trivial (k z')
end

section
variable {P : Program} {N : Nat} {ops : Array Oper} {rest : List Oper} {T : List (Nat × V)} {H : List (Nat × Option Ob)} {O : Type} {Q : O → Exit → St → Prop}
variable {d : Nat} {op : Op} {ty : TypeId} {pos : String} {after : Array Edge} {g : Option (Nat × Bool)} {ro : List (Operand × V)} {rh : List (Nat × Ob)} {fr : List Nat} {x : V} {e : Nat × Option Ob}
/- The same steps, the state after them said plainly. -/
theorem XS.put (hok : OpOK P N ops ⟨some d, op, ty, pos, after, g⟩ ro rh fr x []) (h1 : AllP (fun p => ev T p.1 = some p.2) ro) (h2 : AllP (fun p => lookH H p.1 = some p.2) rh) (h3 : AllP (fun k => look H k = none) fr)
    (h : ∃ z, WS P N ops rest ⟨(d, x) :: T, H⟩ (Q z)) : ∃ z, WS P N ops (⟨some d, op, ty, pos, after, g⟩ :: rest) ⟨T, H⟩ (Q z) := XS.step (st := ⟨T, H⟩) hok h1 h2 h3 h
theorem XS.new (hok : OpOK P N ops ⟨some d, op, ty, pos, after, g⟩ ro rh fr x [e]) (h1 : AllP (fun p => ev T p.1 = some p.2) ro) (h2 : AllP (fun p => lookH H p.1 = some p.2) rh) (h3 : AllP (fun k => look H k = none) fr)
    (h : ∃ z, WS P N ops rest ⟨(d, x) :: T, e :: H⟩ (Q z)) : ∃ z, WS P N ops (⟨some d, op, ty, pos, after, g⟩ :: rest) ⟨T, H⟩ (Q z) := XS.step (st := ⟨T, H⟩) hok h1 h2 h3 h
theorem XS.set (hok : OpOK P N ops ⟨none, op, ty, pos, after, g⟩ ro rh fr x [e]) (h1 : AllP (fun p => ev T p.1 = some p.2) ro) (h2 : AllP (fun p => lookH H p.1 = some p.2) rh) (h3 : AllP (fun k => look H k = none) fr)
    (h : ∃ z, WS P N ops rest ⟨T, e :: H⟩ (Q z)) : ∃ z, WS P N ops (⟨none, op, ty, pos, after, g⟩ :: rest) ⟨T, H⟩ (Q z) := XS.step (st := ⟨T, H⟩) hok h1 h2 h3 h
theorem XS.skip (hok : OpOK P N ops ⟨none, op, ty, pos, after, g⟩ ro rh fr x []) (h1 : AllP (fun p => ev T p.1 = some p.2) ro) (h2 : AllP (fun p => lookH H p.1 = some p.2) rh) (h3 : AllP (fun k => look H k = none) fr)
    (h : ∃ z, WS P N ops rest ⟨T, H⟩ (Q z)) : ∃ z, WS P N ops (⟨none, op, ty, pos, after, g⟩ :: rest) ⟨T, H⟩ (Q z) := XS.step (st := ⟨T, H⟩) hok h1 h2 h3 h
end
section
variable {P : Program} {N : Nat} {id : Nat} {ops rest : List Oper} {st0 : St} {fs : List Foot} {T : List (Nat × V)} {H : List (Nat × Option Ob)} {O : Type} {Q : O → Exit → St → Prop}
variable {d : Nat} {op : Op} {ty : TypeId} {pos : String} {after : Array Edge} {g : Option (Nat × Bool)} {ro : List (Operand × V)} {rh : List (Nat × Ob)} {fr : List Nat} {x : V} {e : Nat × Option Ob}
theorem XD.put (hok : OpOK P N ops.toArray ⟨some d, op, ty, pos, after, g⟩ ro rh fr x []) (h1 : AllP (fun p => ev T p.1 = some p.2) ro) (h2 : AllP (fun p => lookH H p.1 = some p.2) rh) (h3 : AllP (fun k => look H k = none) fr)
    (h : ∃ z, WD P N id ops st0 (fs ++ [⟨ro.flatMap fun p => tmpOf p.1, rh.map (·.1) ++ fr, [d], []⟩]) rest ⟨(d, x) :: T, H⟩ (Q z)) : ∃ z, WD P N id ops st0 fs (⟨some d, op, ty, pos, after, g⟩ :: rest) ⟨T, H⟩ (Q z) := XD.step (st := ⟨T, H⟩) hok h1 h2 h3 h
theorem XD.new (hok : OpOK P N ops.toArray ⟨some d, op, ty, pos, after, g⟩ ro rh fr x [e]) (h1 : AllP (fun p => ev T p.1 = some p.2) ro) (h2 : AllP (fun p => lookH H p.1 = some p.2) rh) (h3 : AllP (fun k => look H k = none) fr)
    (h : ∃ z, WD P N id ops st0 (fs ++ [⟨ro.flatMap fun p => tmpOf p.1, rh.map (·.1) ++ fr, [d], [e.1]⟩]) rest ⟨(d, x) :: T, e :: H⟩ (Q z)) : ∃ z, WD P N id ops st0 fs (⟨some d, op, ty, pos, after, g⟩ :: rest) ⟨T, H⟩ (Q z) := XD.step (st := ⟨T, H⟩) hok h1 h2 h3 h
theorem XD.set (hok : OpOK P N ops.toArray ⟨none, op, ty, pos, after, g⟩ ro rh fr x [e]) (h1 : AllP (fun p => ev T p.1 = some p.2) ro) (h2 : AllP (fun p => lookH H p.1 = some p.2) rh) (h3 : AllP (fun k => look H k = none) fr)
    (h : ∃ z, WD P N id ops st0 (fs ++ [⟨ro.flatMap fun p => tmpOf p.1, rh.map (·.1) ++ fr, [], [e.1]⟩]) rest ⟨T, e :: H⟩ (Q z)) : ∃ z, WD P N id ops st0 fs (⟨none, op, ty, pos, after, g⟩ :: rest) ⟨T, H⟩ (Q z) := XD.step (st := ⟨T, H⟩) hok h1 h2 h3 h
theorem XD.skip (hok : OpOK P N ops.toArray ⟨none, op, ty, pos, after, g⟩ ro rh fr x []) (h1 : AllP (fun p => ev T p.1 = some p.2) ro) (h2 : AllP (fun p => lookH H p.1 = some p.2) rh) (h3 : AllP (fun k => look H k = none) fr)
    (h : ∃ z, WD P N id ops st0 (fs ++ [⟨ro.flatMap fun p => tmpOf p.1, rh.map (·.1) ++ fr, [], []⟩]) rest ⟨T, H⟩ (Q z)) : ∃ z, WD P N id ops st0 fs (⟨none, op, ty, pos, after, g⟩ :: rest) ⟨T, H⟩ (Q z) := XD.step (st := ⟨T, H⟩) hok h1 h2 h3 h
end

end Go.X
