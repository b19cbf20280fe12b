/- A reckoner of calls, regions, code. No program in sight. -/
import Derived.Test.YtlgaegjlgabggaaGreatYD
namespace Go.X
open Go

abbrev Caller := FuncId → List V → List (Nat × Option Ob) → Option (V × List (Nat × Option Ob))
def CallOK (P : Program) (call : Caller) : Prop := ∀ f args Hin out Hout, call f args Hin = some (out, Hout) → Spec P f args Hin out Hout ∧ ∀ args w, (callFunc f args).run P w = .ok (.enter f args) w

/- RENAMING, THERE AND BACK. -/
mutual
theorem ren_ren (s t : Nat → Nat) : ∀ x : V, V.ren s (V.ren t x) = V.ren (fun k => s (t k)) x
  | .agg fs => by simp only [V.ren, rens_rens s t fs]
  | .tup fs => by simp only [V.ren, rens_rens s t fs]
  | .fn f a c => by simp only [V.ren, rens_rens s t a, rens_rens s t c]
  | .v _ | .ints _ _ _ | .sli _ _ | .sl _ | .ptr _ _ | .ptrE _ _ _ | .osl _ _ _ _ _ | .dptr _ | .unk => rfl
theorem rens_rens (s t : Nat → Nat) : ∀ l : List V, V.rens s (V.rens t l) = V.rens (fun k => s (t k)) l
  | [] => rfl
  | x :: r => by simp only [V.rens, ren_ren s t x, rens_rens s t r]
end
mutual
theorem ren_id : ∀ x : V, V.ren (fun k => k) x = x
  | .agg fs => by simp only [V.ren, rens_id fs]
  | .tup fs => by simp only [V.ren, rens_id fs]
  | .fn f a c => by simp only [V.ren, rens_id a, rens_id c]
  | .v _ | .ints _ _ _ | .sli _ _ | .sl _ | .ptr _ _ | .ptrE _ _ _ | .osl _ _ _ _ _ | .dptr _ | .unk => rfl
theorem rens_id : ∀ l : List V, V.rens (fun k => k) l = l
  | [] => rfl
  | x :: r => by simp only [V.rens, ren_id x, rens_id r]
end
def up (k : Nat) : Nat := k + 1000
def down (b j : Nat) : Nat := match Nat.blt j 1000 with
  | true => b + j
  | false => j - 1000
theorem down_up (b k : Nat) : down b (up k) = k := by
  have : Nat.blt (k + 1000) 1000 = false := by
    cases e : Nat.blt (k + 1000) 1000 with
    | false => rfl
    | true => have := blt_lt e; omega
  simp only [down, up, this]; omega
theorem ren_back (b : Nat) (x : V) : V.ren (down b) (V.ren up x) = x := by rw [ren_ren]; simp only [down_up]; exact ren_id x
theorem rens_back (b : Nat) (l : List V) : V.rens (down b) (V.rens up l) = l := by rw [rens_rens]; simp only [down_up]; exact rens_id l
theorem renIn_back (b : Nat) : ∀ h : List (Nat × Ob), renIn (down b) (renIn up h) = h
  | [] => rfl
  | (k, o) :: r => by
    simp only [renIn, renOb, down_up, ren_back, renIn_back b r]

/- WHAT IS REACHED. -/
mutual
def V.refs : V → List Nat
  | .ptr k _ => [k]
  | .ptrE k _ _ => [k]
  | .osl k _ _ _ _ => [k]
  | .agg fs => V.refss fs
  | .tup fs => V.refss fs
  | .fn _ a c => V.refss a ++ V.refss c
  | _ => []
def V.refss : List V → List Nat
  | [] => []
  | x :: r => V.refs x ++ V.refss r
end
def reach (H : List (Nat × Option Ob)) : Nat → List Nat → List Nat → List Nat
  | 0, _, acc => acc
  | _ + 1, [], acc => acc
  | n + 1, k :: r, acc => match acc.contains k with
    | true => reach H n r acc
    | false => match lookH H k with
      | some ob => reach H n (V.refs ob.c ++ r) (k :: acc)
      | none => reach H n r (k :: acc)
def gather (H : List (Nat × Option Ob)) : List Nat → List (Nat × Ob)
  | [] => []
  | k :: r => match lookH H k with
    | some ob => (k, ob) :: gather H r
    | none => gather H r
def gatherO (H : List (Nat × Option Ob)) : List Nat → List (Nat × Option Ob)
  | [] => []
  | k :: r => match look H k with
    | some o => (k, o) :: gatherO H r
    | none => gatherO H r
theorem gather_spec {H : List (Nat × Option Ob)} : ∀ (l : List Nat) (p : Nat × Ob), p ∈ gather H l → lookH H p.1 = some p.2
  | [], p, h => by cases h
  | k :: r, p, h => by
    simp only [gather] at h
    split at h
    · rename_i ob ho
      cases h with
      | head => exact ho
      | tail _ h => exact gather_spec r p h
    · exact gather_spec r p h
theorem gatherO_spec {H : List (Nat × Option Ob)} : ∀ (l : List Nat) (p : Nat × Option Ob), p ∈ gatherO H l → look H p.1 = some p.2
  | [], p, h => by cases h
  | k :: r, p, h => by
    simp only [gatherO] at h
    split at h
    · rename_i ob ho
      cases h with
      | head => exact ho
      | tail _ h => exact gatherO_spec r p h
    · exact gatherO_spec r p h

def nodupK : List Nat → Bool
  | [] => true
  | k :: r => !(r.contains k) && nodupK r
theorem nodup_look {α : Type} : ∀ {l : List (Nat × α)}, nodupK (l.map (·.1)) = true → ∀ k x, (k, x) ∈ l → look l k = some x
  | [], _, k, x, h => by cases h
  | (j, y) :: r, hn, k, x, h => by
    simp only [List.map_cons, nodupK, Bool.and_eq_true, Bool.not_eq_true'] at hn
    rw [look_cons]
    cases h with
    | head => simp
    | tail _ h =>
      have hne : j ≠ k := by
        rintro rfl
        have : (r.map (·.1)).contains j = true := by
          simp only [List.contains_iff_mem, List.mem_map]
          exact ⟨_, h, rfl⟩
        rw [this] at hn; cases hn.1
      rw [if_neg hne]
      exact nodup_look hn.2 k x h

def fitsB (hin : List (Nat × Ob)) (args : List V) (Hout : List (Nat × Option Ob)) (b : Nat) : Bool :=
  V.amongs (hin.map (·.1)) args && hin.all (fun p => V.among (hin.map (·.1)) p.2.c) && (hin.map (·.1)).all (fun k => (keysH Hout).contains k) &&
  (keysH Hout).all (fun j => (Nat.blt j 1000 && Nat.blt (b + j) 1000) || (hin.map (·.1)).contains j) && nodupK (hin.map (·.1)) && (hin.map (·.1)).all (Nat.ble 1000)
def newK (b : Nat) : List (Nat × Option Ob) → List Nat
  | [] => []
  | (j, _) :: r => match Nat.blt j 1000 && Nat.blt (b + j) 1000 with
    | true => (b + j) :: newK b r
    | false => newK b r
theorem newK_mem {b : Nat} : ∀ {H : List (Nat × Option Ob)} {q : Nat}, q ∈ newK b H → b ≤ q ∧ q < 1000
  | (j, o) :: r, q, h => by
    simp only [newK] at h
    split at h
    · rename_i hb
      simp only [Bool.and_eq_true] at hb
      cases h with
      | head => exact ⟨by omega, blt_lt hb.2⟩
      | tail _ h => exact newK_mem h
    · exact newK_mem h
theorem newK_in {b : Nat} : ∀ {H : List (Nat × Option Ob)} {j : Nat}, look H j ≠ none → j < 1000 → b + j < 1000 → b + j ∈ newK b H
  | [], j, h, _, _ => absurd rfl h
  | (i, o) :: r, j, h, h1, h2 => by
    rw [look_cons] at h
    simp only [newK]
    by_cases e : i = j
    · subst e
      rw [lt_blt h1, lt_blt h2]
      exact .head _
    · rw [if_neg e] at h
      have := newK_in h h1 h2
      split
      · exact .tail _ this
      · exact this
theorem look_key {H : List (Nat × Option Ob)} {k : Nat} (h : look H k ≠ none) : k ∈ keysH H := by
  cases e : look H k with
  | none => exact absurd e h
  | some o => exact List.mem_map.2 ⟨_, look_mem e, rfl⟩

theorem fits_of {hin0 : List (Nat × Ob)} {args : List V} {Hout H : List (Nat × Option Ob)} (hh : ∀ p, p ∈ hin0 → lookH H p.1 = some p.2) (h : fitsB (renIn up hin0) args Hout (nxt H) = true) :
    Fits (down (nxt H)) (renIn up hin0) args Hout (newK (nxt H) Hout) := by
  simp only [fitsB, Bool.and_eq_true, List.all_eq_true, Bool.or_eq_true] at h
  obtain ⟨⟨⟨⟨⟨h1, h2⟩, h3⟩, h4⟩, h5⟩, h6⟩ := h
  have hk : ∀ j, look Hout j ≠ none → (j < 1000 ∧ nxt H + j < 1000) ∨ (1000 ≤ j ∧ look H (j - 1000) ≠ none ∧ j ∈ (renIn up hin0).map (·.1)) := by
    intro j hj
    rcases h4 j (look_key hj) with h | h
    · exact .inl ⟨blt_lt h.1, blt_lt h.2⟩
    · have hm := List.contains_iff_mem.1 h
      refine .inr ⟨Nat.ble_eq ▸ h6 j hm, ?_, hm⟩
      obtain ⟨⟨a, b⟩, h7, rfl⟩ := List.mem_map.1 hm
      have h8 : ((down (nxt H) a, renOb (down (nxt H)) b) : Nat × Ob) ∈ renIn (down (nxt H)) (renIn up hin0) := renIn_mem h7
      rw [renIn_back] at h8
      have h9 := hh _ h8
      have ha : 1000 ≤ a := Nat.ble_eq ▸ h6 a hm
      have hd : down (nxt H) a = a - 1000 := by
        unfold down
        cases e : Nat.blt a 1000 with
        | false => rfl
        | true => have := blt_lt e; omega
      simp only [hd] at h9
      exact lookH_of_look h9
  have dlo : ∀ j, j < 1000 → down (nxt H) j = nxt H + j := fun j hj => by simp only [down, lt_blt hj]
  have dhi : ∀ j, 1000 ≤ j → down (nxt H) j = j - 1000 := fun j hj => by
    unfold down
    cases e : Nat.blt j 1000 with
    | false => rfl
    | true => have := blt_lt e; omega
  refine ⟨h1, fun p hp => h2 p hp, fun k hkk => look_keys (h3 k hkk), ?_, ?_, fun k ob hp => nodup_look h5 k ob hp⟩
  · intro i j hi hj e
    rcases hk i hi with ⟨i1, i2⟩ | ⟨i1, i2, _⟩ <;> rcases hk j hj with ⟨j1, j2⟩ | ⟨j1, j2, _⟩
    · rw [dlo i i1, dlo j j1] at e; omega
    · rw [dlo i i1, dhi j j1] at e
      exact absurd (nxt_free (by omega : nxt H ≤ j - 1000) (by omega)) j2
    · rw [dhi i i1, dlo j j1] at e
      exact absurd (nxt_free (by omega : nxt H ≤ i - 1000) (by omega)) i2
    · rw [dhi i i1, dhi j j1] at e; omega
  · intro k hl
    rcases hk k hl with ⟨i1, i2⟩ | ⟨_, _, i3⟩
    · refine .inr ⟨?_, ?_⟩
      · rw [dlo k i1]; exact newK_in hl i1 i2
      · rw [dlo k i1]; exact i2
    · exact .inl i3

section
variable {P : Program} {N : Nat} {d : Option Tmp} {ty : TypeId} {pos : String} {after : Array Edge} {g : Option (Nat × Bool)}

def callEv2 (call : Caller) (st : St) (f : Operand) (xs : List Operand) (fi : FuncId) (fs ys cs : List V) (hin0 : List (Nat × Ob)) : Option R5 :=
  match call fi (V.rens up fs ++ V.rens up ys ++ V.rens up cs) (liv (renIn up hin0)) with
  | some (out, Hout) => match fitsB (renIn up hin0) (V.rens up fs ++ V.rens up ys ++ V.rens up cs) Hout (nxt st.H) with
    | true => some ⟨(f, .fn (.func fi) fs cs) :: zipO xs ys, hin0, newK (nxt st.H) Hout, V.ren (down (nxt st.H)) out, renH (down (nxt st.H)) Hout⟩
    | false => none
  | none => none
def callEv (call : Caller) (st : St) (f : Operand) (xs : List Operand) : Option R5 := match ev st.T f, evs st.T xs with
  | some (.fn (.func fi) fs cs), some ys => callEv2 call st f xs fi fs ys cs (gather st.H (reach st.H 100000 (V.refss (fs ++ ys ++ cs)) []))
  | _, _ => none

theorem callEv_ok {call : Caller} (hcall : CallOK P call) {st : St} {f : Operand} {xs : Array Operand} {tys : Array TypeId} {r : R5} (hd : dlt N d = true) (h : callEv call st f xs.toList = some r) :
    r.OK P N ⟨d, .call { callee := .value f, args := xs, argTypes := tys }, ty, pos, after, g⟩ st := by
  unfold callEv at h
  split at h
  · rename_i fi fs cs ys hf hys
    have hh := gather_spec (H := st.H) (reach st.H 100000 (V.refss (fs ++ ys ++ cs)) [])
    generalize gather st.H (reach st.H 100000 (V.refss (fs ++ ys ++ cs)) []) = hin0 at h hh
    unfold callEv2 at h
    split at h
    · rename_i out Hout hc
      split at h
      · rename_i hb
        cases h
        obtain ⟨hS, hcf⟩ := hcall _ _ _ _ _ hc
        obtain ⟨hl, ha⟩ := evs_ok hys
        have F := fits_of hh hb
        have R := OpRun.call (P := P) (N := N) (d := d) (ty := ty) (pos := pos) (after := after) (g := g) fi f xs.toList tys (down (nxt st.H)) (V.rens up fs) (V.rens up ys) (V.rens up cs) (renIn up hin0) out Hout (newK (nxt st.H) Hout) hd hcf hS F (by rw [rens_length]; exact hl)
        rw [rens_back, rens_back, rens_back, renIn_back] at R
        refine ⟨by simpa using R, ⟨hf, ha⟩, ?_, ?_⟩
        · have : ∀ l : List (Nat × Ob), (∀ p, p ∈ l → lookH st.H p.1 = some p.2) → AllP (fun p => lookH st.H p.1 = some p.2) l := by
            intro l
            induction l with
            | nil => intro _; trivial
            | cons p r ih => intro h; exact ⟨h p (.head _), ih fun q hq => h q (.tail _ hq)⟩
          exact this _ hh
        · have : ∀ l : List Nat, (∀ q, q ∈ l → look st.H q = none) → AllP (fun k => look st.H k = none) l := by
            intro l
            induction l with
            | nil => intro _; trivial
            | cons p r ih => intro h; exact ⟨h p (.head _), ih fun q hq => h q (.tail _ hq)⟩
          exact this _ fun q hq => nxt_free (newK_mem hq).1 (newK_mem hq).2
      · cases h
    · cases h
  · cases h

def callOp (P : Program) (call : Caller) (st : St) (c : Callee) (xs : List Operand) (ts : List TypeId) : Option R5 := match c with
  | .value f => callEv call st f xs
  | .builtin b => match xs, ts with
    | [x], [t] => match b with
      | .len => lenEv P st x t
      | _ => none
    | [x, y], [t, u] => match b with
      | .append => match Nat.beq t u with
        | true => appendEv P st x y t
        | false => none
      | .copy => copyEv P st x y t
      | .min => mmEv st true x y
      | .max => mmEv st false x y
      | _ => none
    | _, _ => none
  | _ => none
theorem callOp_ok {call : Caller} (hcall : CallOK P call) {st : St} {c : Callee} {xs : Array Operand} {tys : Array TypeId} {r : R5} (hd : dlt N d = true) (h : callOp P call st c xs.toList tys.toList = some r) :
    r.OK P N ⟨d, .call { callee := c, args := xs, argTypes := tys }, ty, pos, after, g⟩ st := by
  unfold callOp at h
  split at h
  · exact callEv_ok hcall hd h
  · split at h
    · rename_i x t hx ht
      have hx : xs = #[x] := Array.toList_inj.1 (by simpa using hx)
      have ht : tys = #[t] := Array.toList_inj.1 (by simpa using ht)
      subst hx; subst ht
      split at h
      · exact lenEv_ok hd h
      · cases h
    · rename_i x y t u hx ht
      have hx : xs = #[x, y] := Array.toList_inj.1 (by simpa using hx)
      have ht : tys = #[t, u] := Array.toList_inj.1 (by simpa using ht)
      subst hx; subst ht
      split at h
      · split at h
        · rename_i e
          have e := Nat.eq_of_beq_eq_true e
          subst e
          exact appendEv_ok hd h
        · cases h
      · exact copyEv_ok hd h
      · exact mmEv_ok (mn := true) hd h
      · exact mmEv_ok (mn := false) hd h
      · cases h
    · cases h
  · cases h

def opEv (P : Program) (call : Caller) (st : St) (d : Option Tmp) (op : Op) : Option R5 := match op with
  | .move x => moveEv st x
  | .assign x => moveEv st x
  | .pick c a b => pickEv st c a b
  | .alloc t => allocEv P st t
  | .box _ x => boxEv st x
  | .build t ps => buildEv P st t ps.toList
  | .buildSlice t n ps => buildSliceEv P st t n ps.toList
  | .load t a => loadEv P st t a
  | .store t a v => match d with
    | none => storeEv P st t a v
    | some _ => none
  | .nilCheck x => nilCheckEv st x
  | .binOp op t x y _ => binEv P st op t x y
  | .unOp op _ x => unEv st op x
  | .convert s t x => convEv P st s t x
  | .sliceToArrayPointer t x => s2apEv P st t x
  | .makeFunc f xs cs => makeFuncEv st f xs.toList cs.toList
  | .makeSlice t l c => makeSliceEv P st t l c
  | .slice t x lo hi none => sliceEv P st t x lo hi
  | .fieldAddr s x i => fieldAddrEv P st s x i
  | .field s x i => fieldEv P st s x i
  | .indexAddr t x z => indexAddrEv P st t x z
  | .index t x z => indexEv P st t x z
  | .extract x i => extractEv st x i
  | .call c => callOp P call st c.callee c.args.toList c.argTypes.toList
  | _ => none
theorem opEv_ok {call : Caller} (hcall : CallOK P call) {st : St} {op : Op} {r : R5} (hd : dlt N d = true) (h : opEv P call st d op = some r) : r.OK P N ⟨d, op, ty, pos, after, g⟩ st := by
  unfold opEv at h
  split at h
  · exact (moveEv_ok hd h).1
  · exact (moveEv_ok hd h).2
  · exact pickEv_ok hd h
  · exact allocEv_ok hd h
  · exact boxEv_ok hd h
  · exact buildEv_ok hd h
  · exact buildSliceEv_ok hd h
  · exact loadEv_ok hd h
  · split at h
    · exact storeEv_ok h
    · cases h
  · exact nilCheckEv_ok hd h
  · exact binEv_ok hd h
  · exact unEv_ok hd h
  · exact convEv_ok hd h
  · exact s2apEv_ok hd h
  · exact makeFuncEv_ok hd h
  · exact makeSliceEv_ok hd h
  · exact sliceEv_ok hd h
  · exact fieldAddrEv_ok hd h
  · exact fieldEv_ok hd h
  · exact indexAddrEv_ok hd h
  · exact indexEv_ok hd h
  · exact extractEv_ok hd h
  · exact callOp_ok hcall hd h
  · cases h
end
end Go.X
