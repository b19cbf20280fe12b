/- Operations: calls. No program in sight. -/
import Derived.Test.YtlgaegjlgabggaaGreatXG
namespace Go.X
open Go

mutual
theorem ren_data (s : Nat → Nat) : ∀ x : V, V.among [] x = true → V.ren s x = x
  | .agg fs, h => by simp only [V.ren]; rw [rens_data s fs (by simpa only [V.among] using h)]
  | .tup fs, h => by simp only [V.ren]; rw [rens_data s fs (by simpa only [V.among] using h)]
  | .fn f a c, h => by
    simp only [V.among, Bool.and_eq_true] at h
    simp only [V.ren]; rw [rens_data s a h.1, rens_data s c h.2]
  | .ptr _ _, h | .ptrE _ _ _, h | .osl _ _ _ _ _, h => by simp [V.among] at h
  | .ints _ _ _, _ | .v _, _ | .sli _ _, _ | .sl _, _ | .dptr _, _ | .unk, _ => rfl
theorem rens_data (s : Nat → Nat) : ∀ l : List V, V.amongs [] l = true → V.rens s l = l
  | [], _ => rfl
  | x :: r, h => by
    simp only [V.amongs, Bool.and_eq_true] at h
    simp only [V.rens]; rw [ren_data s x h.1, rens_data s r h.2]
end

theorem RepV_of_0 {imm : Imm} {env : Env} {w : World} {x : V} {u : Value} (h : Rep0 imm env w x u) : RepV imm env w x u := by
  cases x <;> first
    | exact h
    | (simp only [Rep0] at h; cases h)

def zipO : List Operand → List V → List (Operand × V)
  | x :: xs, y :: ys => (x, y) :: zipO xs ys
  | _, _ => []

theorem zipO_rep {B : Base} {N : Nat} {imm : Imm} {env : Env} {st : St} {a : Act} {w : World} (H : Holds B N imm env st a w) : ∀ (xs : List Operand) (ys : List V), xs.length = ys.length → AllP (fun p => ev st.T p.1 = some p.2) (zipO xs ys) → RepL (RepV imm env w) ys (xs.map a.eval)
  | [], [], _, _ => RepL.nil _
  | x :: xs, y :: ys, hl, h => (zipO_rep H xs ys (by simpa using hl) h.2).cons (H.ev h.1)
  | [], y :: ys, hl, _ => by simp at hl
  | x :: xs, [], hl, _ => by simp at hl

section
variable {P : Program} {N : Nat} {d : Option Tmp} {ty : TypeId} {pos : String} {after : Array Edge} {g : Option (Nat × Bool)}

theorem OpRun.call (f : FuncId) (c : Operand) (xs : List Operand) (tys : Array TypeId) (s : Nat → Nat) (fs ys cs : List V) (hin : List (Nat × Ob)) (out : V) (Hout : List (Nat × Option Ob)) (fr : List Nat) (hd : dlt N d = true)
    (hc : ∀ args w, (callFunc f args).run P w = .ok (.enter f args) w) (S : Spec P f (fs ++ ys ++ cs) (liv hin) out Hout) (F : Fits s hin (fs ++ ys ++ cs) Hout fr) (hl : xs.length = ys.length) :
    OpRun P N ⟨d, .call { callee := .value c, args := xs.toArray, argTypes := tys }, ty, pos, after, g⟩ ((c, .fn (.func f) (V.rens s fs) (V.rens s cs)) :: zipO xs (V.rens s ys)) (renIn s hin) fr (V.ren s out) (renH s Hout) := by
  intro B imm env st a w K Q h1 h2 h3 H hK
  obtain ⟨as, bs, hx, ha, hb⟩ := H.ev h1.1
  obtain ⟨hH, hR, hA⟩ := H.call F (fun p hp => h2.mem p hp) (fun k hk => h3.mem k hk)
  have hargs : RepL (RepV imm (env.under s (hin.map (·.1))) w) (fs ++ ys ++ cs) (as ++ xs.map a.eval ++ bs) := by
    have hys := zipO_rep H xs (V.rens s ys) (by rw [rens_length]; exact hl) h1.2
    have hall : RepL (RepV imm env w) (V.rens s (fs ++ ys ++ cs)) (as ++ xs.map a.eval ++ bs) := by
      rw [rens_append, rens_append]
      exact ((ha.imp fun _ _ => RepV_of_0).append hys).append (hb.imp fun _ _ => RepV_of_0)
    exact hall.rens_from fun i x u hxi h => hR x u (amongs_mem F.args i x hxi) h
  have hrun : (execOp a.eval ⟨d, .call { callee := .value c, args := xs.toArray, argTypes := tys }, ty, pos, after, g⟩).run P w = .ok (.enter f (as ++ xs.map a.eval ++ bs).toArray) w := by
    simp [execOp, resolve, hx, Deferred.ofValue, invoke, hc]
  unfold Oper.wp
  rw [hrun]
  refine Calls.mono (S.h imm _ w _ hargs hH) ?_
  rintro e w' ⟨v, imm', env', rfl, A⟩
  obtain ⟨imm'', env'', H', hv⟩ := hA A
  exact hK _ _ _ _ (H'.putO (dlt_lt hd) hv)

theorem Fits.pure (s : Nat → Nat) (args : List V) (h : V.amongs [] args = true) : Fits s [] args [] [] :=
  ⟨h, fun p hp => (by cases hp), fun k hk => (by simp at hk), fun i _ hi => absurd rfl hi, fun k hk => absurd rfl hk, fun k ob hk => (by cases hk)⟩

/-- A call that takes data and gives data. -/
theorem OpRun.callP (f : FuncId) (xs : List Operand) (tys : Array TypeId) (ys : List V) (out : V) (hd : dlt N d = true) (hc : ∀ args w, (callFunc f args).run P w = .ok (.enter f args) w) (S : Spec P f ys [] out [])
    (hy : V.amongs [] ys = true) (ho : V.among [] out = true) (hl : xs.length = ys.length) :
    OpRun P N ⟨d, .call { callee := .value (.func f), args := xs.toArray, argTypes := tys }, ty, pos, after, g⟩ (zipO xs ys) [] [] out [] := by
  have e := OpRun.call (P := P) (N := N) (d := d) (ty := ty) (pos := pos) (after := after) (g := g) f (.func f) xs tys (fun k => k) [] ys [] [] out [] [] hd hc (by simpa [liv] using S) (Fits.pure _ _ (by simpa using hy)) hl
  rw [ren_data _ out ho, rens_data _ ys hy] at e
  intro B imm env st a w K Q h1 h2 h3 H hK
  exact e B imm env st a w K Q ⟨rfl, h1⟩ trivial trivial H hK

/-- A function without a body: what it gives. -/
theorem OpRun.extern (f : FuncId) (xs : List Operand) (tys : Array TypeId) (us : List Value) (out : V) (r : Value) (hd : dlt N d = true) (hc : (∀ u, u ∈ us → good u = true) → ∀ w, (callFunc f us.toArray).run P w = .ok (.value r) w)
    (hr : (∀ u, u ∈ us → good u = true) → ∀ imm env w, RepV imm env w out r) (hl : xs.length = us.length) :
    OpRun P N ⟨d, .call { callee := .value (.func f), args := xs.toArray, argTypes := tys }, ty, pos, after, g⟩ (zipO xs (us.map V.v)) [] [] out [] :=
  OpRun.val hd fun B imm env st a w h1 _ _ H => by
    have key : ∀ (xs : List Operand) (us : List Value), xs.length = us.length → AllP (fun p => ev st.T p.1 = some p.2) (zipO xs (us.map V.v)) → xs.map a.eval = us ∧ ∀ u, u ∈ us → good u = true := by
      intro xs
      induction xs with
      | nil => intro us hl _; cases us <;> simp at hl ⊢
      | cons x xs ih =>
        intro us hl h
        cases us with
        | nil => simp at hl
        | cons u us =>
          have h2 := ih us (by simpa using hl) h.2
          refine ⟨by rw [List.map_cons, h2.1, int_ev H h.1], fun v hv => ?_⟩
          cases hv with
          | head => exact H.good h.1
          | tail _ hv => exact h2.2 v hv
    have hx := key xs us hl h1
    exact ⟨r, w, imm, env, by simp [execOp, resolve, Act.eval, Deferred.ofValue, invoke, hx.1, hc hx.2], H, hr hx.2 imm env w⟩
end

end Go.X
