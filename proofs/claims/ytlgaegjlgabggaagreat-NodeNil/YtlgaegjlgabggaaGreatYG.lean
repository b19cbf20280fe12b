/- A reckoner of calls: of whole runs. No program in sight. -/
import Derived.Test.YtlgaegjlgabggaaGreatYF
namespace Go.X
open Go

theorem AllP.of_mem {α : Type} {f : α → Prop} : ∀ {l : List α}, (∀ x, x ∈ l → f x) → AllP f l
  | [], _ => trivial
  | x :: r, h => ⟨h x (.head _), AllP.of_mem fun y hy => h y (.tail _ hy)⟩
theorem enumT_mem : ∀ (l : List V) (i : Nat) (p : Nat × V), p ∈ enumT i l → i ≤ p.1 ∧ l[p.1 - i]? = some p.2
  | [], i, p, h => by cases h
  | x :: r, i, p, h => by
    simp only [enumT] at h
    cases h with
    | head => simp
    | tail _ h =>
      obtain ⟨h1, h2⟩ := enumT_mem r (i + 1) p h
      refine ⟨by omega, ?_⟩
      rw [show p.1 - i = (p.1 - (i + 1)) + 1 by omega]
      simpa using h2

def resS (P : Program) (st : St) : List ResultVar → Option (List V)
  | [] => some []
  | .tmp t :: r => match look st.T t, resS P st r with
    | some y, some ys => match y.noTup with
      | true => some (y :: ys)
      | false => none
    | _, _ => none
  | .cell a ty :: r => match look st.T a, resS P st r with
    | some (.ptr k off), some ys => match lookH st.H k, P.underlying ty, szP P ty with
      | some ob, some de, some sz => match aggD de with
        | true => match V.at sz ob.c off with
          | some y => match y.isAgg with
            | true => some (y :: ys)
            | false => none
          | none => none
        | false => match V.leaf ob.c off with
          | some y => some (y :: ys)
          | none => none
      | _, _, _ => none
    | _, _ => none
theorem resS_ok {P : Program} {st : St} : ∀ {rs : List ResultVar} {ys : List V}, resS P st rs = some ys → RessIs P st rs ys
  | [], ys, h => by simp only [resS] at h; cases h; exact .nil
  | .tmp t :: r, ys, h => by
    simp only [resS] at h
    split at h
    · rename_i y ys' h1 h2
      split at h
      · cases h; exact .cons (.tmp t y h1 (by assumption)) (resS_ok h2)
      · cases h
    · cases h
  | .cell a ty :: r, ys, h => by
    simp only [resS] at h
    split at h
    · rename_i k off ys' h1 h2
      split at h
      · rename_i ob de sz ho hde hs
        split at h
        · rename_i ha
          split at h
          · rename_i y hy
            split at h
            · rename_i hya
              cases h
              exact .cons (.cellA a ty k off sz ob y h1 ho (fun w => by rw [aggP_run hde, ha]) (szP_run hs) hy hya) (resS_ok h2)
            · cases h
          · cases h
        · rename_i ha
          split at h
          · rename_i y hy
            cases h
            exact .cons (.cell1 a ty k off ob y h1 ho (fun w => by rw [aggP_run hde, ha]) hy) (resS_ok h2)
          · cases h
      · cases h
    · cases h

def isEnd : Exit → Bool
  | .ret => true
  | .normal => true
  | _ => false
def finS2 (ys : List V) (Hout : List (Nat × Option Ob)) : Option (V × List (Nat × Option Ob)) := match allNoTup ys && amongT (keysH Hout) (enumT 0 ys) && amongH (keysH Hout) Hout with
  | true => some (outV ys, Hout)
  | false => none
def finS (st : St) (ys : List V) (Hin : List (Nat × Option Ob)) : Option (V × List (Nat × Option Ob)) := finS2 ys (gatherO st.H (reach st.H 100000 (V.refss ys ++ keysH Hin) []))

def exCall (P : Program) : Nat → Caller
  | 0 => fun _ _ _ => none
  | n + 1 => fun f args Hin => match P.funcs[f]? with
    | some fn => match fn.body with
      | some c => match Nat.ble fn.results.toList.length 4 && Nat.ble args.length fn.ntmps && all1000 Hin with
        | true => match exCode P (exCall P n) fn.ntmps n c ⟨enumT 0 args, Hin⟩ with
          | some (e, st) => match isEnd e, resS P st fn.results.toList with
            | true, some ys => finS st ys Hin
            | _, _ => none
          | none => none
        | false => none
      | none => none
    | none => none

theorem exCall_ok {P : Program} (hm : P.follows .mixedOrders = true) (hname : ∀ (f : Nat) (fn : Func), P.funcs[f]? = some fn → fn.name ≠ "runtime.NumGoroutine") : ∀ n, CallOK P (exCall P n) := by
  intro n
  induction n with
  | zero => intro f args Hin out Hout h; simp [exCall] at h
  | succ n ih =>
    intro f args Hin out Hout h
    unfold exCall at h
    split at h
    · rename_i fn hf
      split at h
      · rename_i c hb
        split at h
        · rename_i hc
          simp only [Bool.and_eq_true] at hc
          split at h
          · rename_i e st he
            split at h
            · rename_i ys hend hys
              unfold finS finS2 at h
              have hgo := gatherO_spec (H := st.H) (reach st.H 100000 (V.refss ys ++ keysH Hin) [])
              generalize gatherO st.H (reach st.H 100000 (V.refss ys ++ keysH Hin) []) = Ho at h hgo
              split at h
              · rename_i hb2
                simp only [Bool.and_eq_true] at hb2
                cases h
                refine ⟨?_, fun args w => ?_⟩
                · have hres := resS_ok hys
                  have hW : W P fn.ntmps c ⟨enumT 0 args, Hin⟩ (RetQ P fn.results.toList ys Hout) := (exCode_ok hm ih n c _ e st he _ (by
                    refine ⟨?_, ys, hres, rfl, Less.mk' ?_ ?_ hb2.1.2 hb2.2⟩
                    · cases e <;> first | exact .inl rfl | exact .inr rfl | cases hend
                    · refine AllP.of_mem fun p hp => ⟨p.2, ?_, Ent.refl _⟩
                      obtain ⟨h1, h2⟩ := enumT_mem ys 0 p hp
                      have := look_enumT ys 0 p.1 p.2 (by simpa using h2)
                      simpa using this
                    · refine AllP.of_mem fun p hp => ?_
                      have := hgo p hp
                      obtain ⟨k, o⟩ := p
                      cases o with
                      | none => trivial
                      | some ob => exact ⟨ob, this, EntO.refl _⟩)).1
                  have := Spec.of_body (O := Unit) (outs := fun _ => ys) (Hout := fun _ => Hout) hf hb rfl (rs := fn.results.toList) (by simp) hc.1.1 rfl hc.1.2 hc.2 (fun _ => hb2.1.1) ⟨(), hW⟩
                  exact this.elim fun _ h => h
                · have hn := hname f fn hf
                  simp [callFunc, hf, hn, hb]
              · cases h
            · cases h
          · cases h
        · cases h
      · cases h
    · cases h
end Go.X
