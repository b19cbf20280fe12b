/- Abstract values for a walk: what a Go value is, told without addresses; how it lies in a world. No program in sight. -/
import Derived.WalkKit
namespace Go.X
open Go

/-- An abstract value: an exact cell; an array of integers; a struct or another array; slices of data that nobody writes; pointers and slices into objects that the walk knows by number; a pointer to such data; functions; tuples. -/
inductive V where
  | v (x : Value)
  | ints (k : IntKind) (n : Nat) (xs : List Int)
  | agg (fs : List V)
  | sli (k : IntKind) (xs : List Int)
  | sl (es : List V)
  | ptr (k off : Nat)
  | ptrE (k base i : Nat)
  | osl (k off n sz : Nat) (cap : Option Nat)
  | dptr (x : V)
  | fn (f : Fn) (first cap : List V)
  | tup (l : List V)
  | unk
  deriving Inhabited

mutual
def V.size : V → Nat
  | .ints _ n _ => n
  | .agg fs => V.sizes fs
  | _ => 1
def V.sizes : List V → Nat
  | [] => 0
  | x :: r => V.size x + V.sizes r
end
mutual
def V.flat : V → List V
  | .ints k _ xs => xs.map fun x => .v (.int k x)
  | .agg fs => V.flats fs
  | .v x => [.v x]
  | .sli k xs => [.sli k xs]
  | .sl es => [.sl es]
  | .ptr k off => [.ptr k off]
  | .ptrE k b i => [.ptrE k b i]
  | .osl k o n s c => [.osl k o n s c]
  | .dptr x => [.dptr x]
  | .fn f a c => [.fn f a c]
  | .tup l => [.tup l]
  | .unk => [.unk]
def V.flats : List V → List V
  | [] => []
  | x :: r => V.flat x ++ V.flats r
end
mutual
def V.ok : V → Prop
  | .ints _ n xs => xs.length = n
  | .agg fs => V.oks fs
  | _ => True
def V.oks : List V → Prop
  | [] => True
  | x :: r => V.ok x ∧ V.oks r
end

mutual
theorem V.flat_length : ∀ x : V, x.ok → x.flat.length = x.size
  | .ints _ _ _, h => by simp only [V.flat, V.size, List.length_map]; exact h
  | .agg fs, h => by simp only [V.flat, V.size]; exact V.flats_length fs h
  | .v _, _ => rfl | .sli _ _, _ => rfl | .sl _, _ => rfl | .ptr _ _, _ => rfl | .ptrE _ _ _, _ => rfl | .osl _ _ _ _ _, _ => rfl
  | .dptr _, _ => rfl | .fn _ _ _, _ => rfl | .tup _, _ => rfl | .unk, _ => rfl
theorem V.flats_length : ∀ l : List V, V.oks l → (V.flats l).length = V.sizes l
  | [], _ => rfl
  | x :: r, h => by
    simp only [V.flats, V.sizes, List.length_append]
    rw [V.flat_length x h.1, V.flats_length r h.2]
end

theorem V.flats_append : ∀ a b : List V, V.flats (a ++ b) = V.flats a ++ V.flats b
  | [], _ => rfl
  | x :: r, b => by simp only [List.cons_append, V.flats, V.flats_append r b, List.append_assoc]
theorem V.sizes_append : ∀ a b : List V, V.sizes (a ++ b) = V.sizes a + V.sizes b
  | [], _ => by simp [V.sizes]
  | x :: r, b => by simp only [List.cons_append, V.sizes, V.sizes_append r b, Nat.add_assoc]
theorem V.oks_append : ∀ a b : List V, V.oks (a ++ b) ↔ V.oks a ∧ V.oks b
  | [], _ => by simp [V.oks]
  | x :: r, b => by simp only [List.cons_append, V.oks, V.oks_append r b, and_assoc]

abbrev Imm := Nat → Prop

/-- A cell that a variable may hold: a number lies within its kind. -/
def good : Value → Bool
  | .int k n => decide (k.min ≤ n) && decide (n ≤ k.max)
  | x => x.oneCell'
theorem good_one {x : Value} (h : good x = true) : x.oneCell' = true := by
  cases x <;> first | rfl | exact h
theorem good_int {k : IntKind} {n : Int} : good (.int k n) = true ↔ k.min ≤ n ∧ n ≤ k.max := by simp [good]
def InR (k : IntKind) (xs : List Int) : Prop := ∀ x, x ∈ xs → k.min ≤ x ∧ x ≤ k.max

/-- Data, in memory that nobody writes any more. -/
inductive RepD (imm : Imm) (w : World) : V → Value → Prop
  | v (x : Value) (h1 : good x = true) : RepD imm w (.v x) x
  | sliE (k : IntKind) (a : Option Addr) (c : Nat) : RepD imm w (.sli k []) (.slice a 0 c)
  | sli (k : IntKind) (xs : List Int) (b off c : Nat) (hb : imm b) (hc : xs.length ≤ c) (hm : xs.length ≤ maxLen) (hg : InR k xs)
      (h : ∀ (i : Nat) (x : Int), xs[i]? = some x → w.cell? ⟨b, off + i, none⟩ = some (.int k x)) : RepD imm w (.sli k xs) (.slice (some ⟨b, off, none⟩) xs.length c)
  | slE (a : Option Addr) (c : Nat) : RepD imm w (.sl []) (.slice a 0 c)
  | sl (es : List V) (sz b off c : Nat) (us : Nat → Value) (hb : imm b) (hc : es.length ≤ c) (hm : es.length ≤ maxLen) (hsz : ∀ e, e ∈ es → V.size e = sz ∧ V.ok e)
      (h : ∀ (i : Nat) (x : V), (V.flats es)[i]? = some x → w.cell? ⟨b, off + i, none⟩ = some (us i))
      (hr : ∀ (i : Nat) (x : V), (V.flats es)[i]? = some x → RepD imm w x (us i)) : RepD imm w (.sl es) (.slice (some ⟨b, off, none⟩) es.length c)
  | dptr (x : V) (b off : Nat) (us : Nat → Value) (hb : imm b) (hok : V.ok x)
      (h : ∀ (i : Nat) (y : V), (V.flat x)[i]? = some y → w.cell? ⟨b, off + i, none⟩ = some (us i))
      (hr : ∀ (i : Nat) (y : V), (V.flat x)[i]? = some y → RepD imm w y (us i)) : RepD imm w (.dptr x) (.pointer (some ⟨b, off, none⟩))

theorem RepD.mono {imm imm' : Imm} {w w' : World} {x : V} {u : Value} (h : RepD imm w x u) (hi : ∀ b, imm b → imm' b) (hw : ∀ b, imm b → w'.heap[b]? = w.heap[b]?) : RepD imm' w' x u := by
  have hcell : ∀ b o, imm b → w'.cell? ⟨b, o, none⟩ = w.cell? ⟨b, o, none⟩ := fun b o hb => by simp [World.cell?, hw b hb]
  induction h with
  | v x h1 => exact .v x h1
  | sliE k a c => exact .sliE k a c
  | sli k xs b off c hb hc hm hg h => exact .sli k xs b off c (hi b hb) hc hm hg fun i x hx => by rw [hcell b _ hb]; exact h i x hx
  | slE a c => exact .slE a c
  | sl es sz b off c us hb hc hm hsz h hr ih => exact .sl es sz b off c us (hi b hb) hc hm hsz (fun i x hx => by rw [hcell b _ hb]; exact h i x hx) fun i x hx => ih i x hx
  | dptr x b off us hb hok h hr ih => exact .dptr x b off us (hi b hb) hok (fun i x hx => by rw [hcell b _ hb]; exact h i x hx) fun i x hx => ih i x hx

theorem RepD.one {imm : Imm} {w : World} {x : V} {u : Value} (h : RepD imm w x u) : u.oneCell' = true := by
  cases h <;> first | exact good_one (by assumption) | rfl

/-- Where an object lies: its block, how many cells that has; or nowhere: a slice that is nil yet. -/
structure Ref where
  blk : Nat
  tot : Nat
  ty : TypeId
  nil : Bool

abbrev Env := Nat → Option Ref

def Rep0 (imm : Imm) (env : Env) (w : World) (x : V) (u : Value) : Prop :=
  match x with
  | .ptr k off => ∃ r, env k = some r ∧ r.nil = false ∧ u = .pointer (some ⟨r.blk, off, none⟩)
  | .ptrE k b i => ∃ r, env k = some r ∧ r.nil = false ∧ u = .pointer (some ⟨r.blk, b + i, none⟩)
  | .osl k off n sz cap => ∃ r, env k = some r ∧ ((r.nil = false ∧ ∃ c, u = .slice (some ⟨r.blk, off, none⟩) n c ∧ n ≤ c ∧ c ≤ maxLen ∧ off + c * sz ≤ r.tot ∧ (off = 0 → c * sz = r.tot) ∧ (∀ m, cap = some m → c = m)) ∨ (r.nil = true ∧ off = 0 ∧ n = 0 ∧ u = .slice none 0 0))
  | .unk => u.oneCell' = true
  | x => RepD imm w x u

def RepL (R : V → Value → Prop) (xs : List V) (us : List Value) : Prop := us.length = xs.length ∧ ∀ (i : Nat) (x : V), xs[i]? = some x → ∃ u, us[i]? = some u ∧ R x u

def Rep1 (imm : Imm) (env : Env) (w : World) (x : V) (u : Value) : Prop :=
  match x with
  | .fn f a c => ∃ as cs : List Value, u = .func f as.toArray cs.toArray ∧ RepL (Rep0 imm env w) a as ∧ RepL (Rep0 imm env w) c cs
  | x => Rep0 imm env w x u

/-- A value that is no tuple. -/
def RepC (imm : Imm) (env : Env) (w : World) (x : V) (u : Value) : Prop :=
  match x with
  | .ints k n xs => xs.length = n ∧ InR k xs ∧ u = .agg (xs.map (Value.int k)).toArray
  | .agg fs => V.oks fs ∧ ∃ arr : Array Value, u = .agg arr ∧ RepL (Rep1 imm env w) (V.flats fs) arr.toList
  | x => Rep1 imm env w x u

def RepV (imm : Imm) (env : Env) (w : World) (x : V) (u : Value) : Prop :=
  match x with
  | .tup l => ∃ arr : Array Value, u = .tuple arr ∧ RepL (RepC imm env w) l arr.toList
  | x => RepC imm env w x u

theorem RepL.imp {R S : V → Value → Prop} {xs : List V} {us : List Value} (h : RepL R xs us) (hrs : ∀ x u, R x u → S x u) : RepL S xs us :=
  ⟨h.1, fun i x hx => let ⟨u, h1, h2⟩ := h.2 i x hx; ⟨u, h1, hrs _ _ h2⟩⟩

section mono
variable {imm imm' : Imm} {env env' : Env} {w w' : World}
theorem Rep0.mono (hi : ∀ b, imm b → imm' b) (he : ∀ k r, env k = some r → env' k = some r) (hw : ∀ b, imm b → w'.heap[b]? = w.heap[b]?) {x : V} {u : Value} (h : Rep0 imm env w x u) : Rep0 imm' env' w' x u := by
  cases x <;> simp only [Rep0] at h ⊢ <;> first
    | exact h.mono hi hw
    | exact h
    | (obtain ⟨r, hr, h⟩ := h; exact ⟨r, he _ _ hr, h⟩)
theorem Rep1.mono (hi : ∀ b, imm b → imm' b) (he : ∀ k r, env k = some r → env' k = some r) (hw : ∀ b, imm b → w'.heap[b]? = w.heap[b]?) {x : V} {u : Value} (h : Rep1 imm env w x u) : Rep1 imm' env' w' x u := by
  cases x <;> simp only [Rep1] at h ⊢ <;> first
    | exact Rep0.mono hi he hw h
    | (obtain ⟨as, cs, h1, h2, h3⟩ := h; exact ⟨as, cs, h1, h2.imp fun _ _ => Rep0.mono hi he hw, h3.imp fun _ _ => Rep0.mono hi he hw⟩)
theorem RepC.mono (hi : ∀ b, imm b → imm' b) (he : ∀ k r, env k = some r → env' k = some r) (hw : ∀ b, imm b → w'.heap[b]? = w.heap[b]?) {x : V} {u : Value} (h : RepC imm env w x u) : RepC imm' env' w' x u := by
  cases x <;> simp only [RepC] at h ⊢ <;> first
    | exact Rep1.mono hi he hw h
    | exact h
    | (obtain ⟨h1, arr, h2, h3⟩ := h; exact ⟨h1, arr, h2, h3.imp fun _ _ => Rep1.mono hi he hw⟩)
theorem RepV.mono (hi : ∀ b, imm b → imm' b) (he : ∀ k r, env k = some r → env' k = some r) (hw : ∀ b, imm b → w'.heap[b]? = w.heap[b]?) {x : V} {u : Value} (h : RepV imm env w x u) : RepV imm' env' w' x u := by
  cases x <;> simp only [RepV] at h ⊢ <;> first
    | exact RepC.mono hi he hw h
    | (obtain ⟨arr, h2, h3⟩ := h; exact ⟨arr, h2, h3.imp fun _ _ => RepC.mono hi he hw⟩)
end mono

theorem Rep0.one {imm : Imm} {env : Env} {w : World} {x : V} {u : Value} (h : Rep0 imm env w x u) : u.oneCell' = true := by
  cases x <;> simp only [Rep0] at h <;> first
    | exact h.one
    | exact h
    | (obtain ⟨r, _, _, rfl⟩ := h; rfl)
    | (obtain ⟨r, _, ⟨_, c, rfl, _⟩ | ⟨_, _, _, rfl⟩⟩ := h <;> rfl)
theorem Rep1.one {imm : Imm} {env : Env} {w : World} {x : V} {u : Value} (h : Rep1 imm env w x u) : u.oneCell' = true := by
  cases x <;> simp only [Rep1] at h <;> first
    | exact Rep0.one h
    | (obtain ⟨as, cs, rfl, _⟩ := h; rfl)

theorem RepL.nil (R : V → Value → Prop) : RepL R [] [] := ⟨rfl, fun i x h => by simp at h⟩
theorem RepL.cons {R : V → Value → Prop} {x : V} {u : Value} {xs : List V} {us : List Value} (h : R x u) (t : RepL R xs us) : RepL R (x :: xs) (u :: us) :=
  ⟨by simp [t.1], fun i y hy => by
    cases i with
    | zero => simp at hy; subst hy; exact ⟨u, rfl, h⟩
    | succ i => simp at hy; obtain ⟨v, h1, h2⟩ := t.2 i y hy; exact ⟨v, by simpa using h1, h2⟩⟩
theorem RepL.cons_inv {R : V → Value → Prop} {x : V} {xs : List V} {us : List Value} (h : RepL R (x :: xs) us) : ∃ u t, us = u :: t ∧ R x u ∧ RepL R xs t := by
  obtain ⟨hl, h⟩ := h
  cases us with
  | nil => simp at hl
  | cons u t =>
    obtain ⟨v, h1, h2⟩ := h 0 x rfl
    simp at h1; subst h1
    exact ⟨u, t, rfl, h2, by simpa using hl, fun i y hy => by obtain ⟨v, h1, h2⟩ := h (i + 1) y (by simpa using hy); exact ⟨v, by simpa using h1, h2⟩⟩
theorem RepL.nil_inv {R : V → Value → Prop} {us : List Value} (h : RepL R [] us) : us = [] := List.eq_nil_of_length_eq_zero h.1
theorem RepL.append {R : V → Value → Prop} {xs ys : List V} {us vs : List Value} (h : RepL R xs us) (k : RepL R ys vs) : RepL R (xs ++ ys) (us ++ vs) := by
  refine ⟨by simp [h.1, k.1], fun i x hx => ?_⟩
  by_cases hi : i < xs.length
  · rw [List.getElem?_append_left hi] at hx
    obtain ⟨u, h1, h2⟩ := h.2 i x hx
    exact ⟨u, by rw [List.getElem?_append_left (by rw [h.1]; exact hi)]; exact h1, h2⟩
  · rw [List.getElem?_append_right (by omega)] at hx
    obtain ⟨u, h1, h2⟩ := k.2 _ x hx
    exact ⟨u, by rw [List.getElem?_append_right (by rw [h.1]; omega), h.1]; exact h1, h2⟩
theorem RepL.drop {R : V → Value → Prop} {xs : List V} {us : List Value} (n : Nat) (h : RepL R xs us) : RepL R (xs.drop n) (us.drop n) :=
  ⟨by simp [h.1], fun i x hx => by rw [List.getElem?_drop] at hx; obtain ⟨u, h1, h2⟩ := h.2 _ x hx; exact ⟨u, by rw [List.getElem?_drop]; exact h1, h2⟩⟩
theorem RepL.take {R : V → Value → Prop} {xs : List V} {us : List Value} (n : Nat) (h : RepL R xs us) : RepL R (xs.take n) (us.take n) :=
  ⟨by simp [h.1], fun i x hx => by
    rw [List.getElem?_take] at hx
    split at hx
    · obtain ⟨u, h1, h2⟩ := h.2 _ x hx; exact ⟨u, by rw [List.getElem?_take, if_pos (by assumption)]; exact h1, h2⟩
    · cases hx⟩

/-- Of integers all is told by the very cells. -/
theorem RepL_ints {imm : Imm} {env : Env} {w : World} (k : IntKind) (xs : List Int) (hg : InR k xs) : RepL (Rep1 imm env w) (xs.map fun x => V.v (.int k x)) (xs.map (Value.int k)) :=
  ⟨by simp, fun i x hx => by
    simp only [List.getElem?_map, Option.map_eq_some_iff] at hx ⊢
    obtain ⟨n, hn, rfl⟩ := hx
    exact ⟨_, ⟨n, hn, rfl⟩, .v _ (good_int.2 (hg n (List.mem_of_getElem? hn)))⟩⟩
theorem RepL_ints_inv {imm : Imm} {env : Env} {w : World} {k : IntKind} : ∀ {xs : List Int} {us : List Value}, RepL (Rep1 imm env w) (xs.map fun x => V.v (.int k x)) us → us = xs.map (Value.int k) ∧ InR k xs
  | [], us, h => ⟨h.nil_inv, fun x hx => by cases hx⟩
  | x :: xs, us, h => by
    obtain ⟨u, t, rfl, h1, h2⟩ := h.cons_inv
    obtain ⟨h3, h4⟩ := RepL_ints_inv h2
    simp only [Rep1, Rep0] at h1
    cases h1 with
    | v _ hg => exact ⟨by rw [h3]; rfl, fun y hy => by
        cases hy with
        | head => exact good_int.1 hg
        | tail _ hy => exact h4 y hy⟩

/-- The cells of a value that is no tuple: as its parts are. -/
theorem RepC.cells {imm : Imm} {env : Env} {w : World} {x : V} {u : Value} (h : RepC imm env w x u) : V.ok x ∧ RepL (Rep1 imm env w) x.flat u.cells.toList := by
  cases x <;> simp only [RepC] at h
  case ints k n xs =>
    obtain ⟨h1, hg, rfl⟩ := h
    exact ⟨h1, by simpa [V.flat, Value.cells] using RepL_ints k xs hg⟩
  case agg fs =>
    obtain ⟨h1, arr, rfl, h3⟩ := h
    exact ⟨h1, h3⟩
  all_goals
    refine ⟨trivial, ?_⟩
    have h1 := Rep1.one h
    have hc : u.cells.toList = [u] := by cases u <;> first | rfl | (simp [Value.oneCell'] at h1)
    rw [hc]
    exact (RepL.nil _).cons h

/-- Back: cells that read as a value's parts are that value. -/
theorem RepC.of_cells {imm : Imm} {env : Env} {w : World} {x : V} {l : List Value} (hok : V.ok x) (h : RepL (Rep1 imm env w) x.flat l) :
    (∃ k n xs, x = .ints k n xs) ∨ (∃ fs, x = .agg fs) → RepC imm env w x (.agg l.toArray) := by
  rintro (⟨k, n, xs, rfl⟩ | ⟨fs, rfl⟩)
  · have h' : RepL (Rep1 imm env w) (xs.map fun x => V.v (.int k x)) l := by simpa [V.flat] using h
    exact ⟨hok, (RepL_ints_inv h').2, by rw [(RepL_ints_inv h').1]⟩
  · exact ⟨hok, l.toArray, rfl, by simpa [V.flat] using h⟩

end Go.X
