/- Operations: parts of slices of data. No program in sight. -/
import Derived.Test.YtlgaegjlgabggaaGreatXS
namespace Go.X
open Go

/-- What a cut of data is. -/
theorem sli_cut {imm : Imm} {w : World} {k : IntKind} {xs : List Int} {a : Option Addr} {n c : Nat} (h : RepD imm w (.sli k xs) (.slice a n c)) {l m : Nat} (hl : l ≤ m) (hm : m ≤ xs.length) (q c' : Nat) (hq : m ≤ q) (hc' : m - l ≤ c') :
    RepD imm w (.sli k ((xs.take m).drop l)) (.slice (if q = l then a else a.map (·.add (l * 1))) (m - l) c') := by
  rcases sli_inv h k xs rfl with ⟨rfl, a', c2, hx⟩ | ⟨b, off, c2, hx, hb, hc, hmx, hg, hcell⟩
  · cases hx
    simp at hm; subst hm
    simp at hl; subst hl
    exact .sliE k _ _
  · cases hx
    by_cases hz : m = l
    · subst hz
      have e : (xs.take m).drop m = [] := List.drop_eq_nil_of_le (by simp; omega)
      rw [e, Nat.sub_self]; exact .sliE k _ _
    · have hne : q ≠ l := by omega
      rw [if_neg hne]
      have hlen : ((xs.take m).drop l).length = m - l := by simp; omega
      have := RepD.sli (imm := imm) (w := w) k ((xs.take m).drop l) b (off + l) c' hb (by omega) (by rw [hlen]; omega) (fun x hx => hg x (List.mem_of_mem_take (List.mem_of_mem_drop hx))) (fun i x hx => by
        rw [List.getElem?_drop, List.getElem?_take] at hx
        split at hx
        · rw [Nat.add_assoc]; exact hcell _ _ hx
        · cases hx)
      rw [hlen] at this
      simpa [addr_add] using this

theorem sl_cut {imm : Imm} {w : World} {es : List V} {a : Option Addr} {n c sz : Nat} (h : RepD imm w (.sl es) (.slice a n c)) (hsz : ∀ e, e ∈ es → V.size e = sz) {l m : Nat} (hl : l ≤ m) (hm : m ≤ es.length) (q c' : Nat) (hq : m ≤ q) (hc' : m - l ≤ c') :
    RepD imm w (.sl ((es.take m).drop l)) (.slice (if q = l then a else a.map (·.add (l * sz))) (m - l) c') := by
  rcases sl_inv h es rfl with ⟨rfl, a', c2, hx⟩ | ⟨sz', b, off, c2, us, hx, hb, hc, hmx, hs, hcell, hrep⟩
  · cases hx
    simp at hm; subst hm
    simp at hl; subst hl
    exact .slE _ _
  · cases hx
    by_cases hz : m = l
    · subst hz
      have e : (es.take m).drop m = [] := List.drop_eq_nil_of_le (by simp; omega)
      rw [e, Nat.sub_self]; exact .slE _ _
    · have hne : q ≠ l := by omega
      rw [if_neg hne]
      have hpos : 0 < es.length := by omega
      have hss : sz' = sz := by rw [← (hs es[0] (List.getElem_mem _)).1, hsz _ (List.getElem_mem _)]
      subst hss
      have hlen : ((es.take m).drop l).length = m - l := by simp; omega
      have hmem : ∀ e, e ∈ (es.take m).drop l → e ∈ es := fun e he => List.mem_of_mem_take (List.mem_of_mem_drop he)
      have hfl : ∀ (i : Nat) (x : V), (V.flats ((es.take m).drop l))[i]? = some x → (V.flats es)[l * sz' + i]? = some x := by
        intro i x hx
        rw [flats_drop _ sz' (fun e he => hs e (List.mem_of_mem_take he)), flats_take _ sz' hs, List.getElem?_drop, List.getElem?_take] at hx
        split at hx
        · exact hx
        · cases hx
      have := RepD.sl (imm := imm) (w := w) ((es.take m).drop l) sz' b (off + l * sz') c' (fun i => us (l * sz' + i)) hb (by omega) (by rw [hlen]; omega) (fun e he => hs e (hmem e he))
        (fun i x hx => by rw [Nat.add_assoc]; exact hcell _ _ (hfl i x hx)) (fun i x hx => hrep _ _ (hfl i x hx))
      rw [hlen] at this
      simpa [addr_add] using this

section
variable {P : Program} {N : Nat} {d : Option Tmp} {ty : TypeId} {pos : String} {after : Array Edge} {g : Option (Nat × Bool)}
theorem run_cut (t e : TypeId) (sz : Nat) (hu : ∀ w, (underlying t).run P w = .ok (.slice e) w) (hs : ∀ w, (sizeOf e).run P w = .ok sz w) (a : Option Addr) (len cap : Nat) (lo hi mx : Option Value) (l h m : Nat) (w : World)
    (hb : (Instr.sliceBounds true len cap lo hi mx).run P w = .ok (l, h, m) w) : (Instr.sliceAt t (.slice a len cap) lo hi mx).run P w = .ok (.slice (if m = l then a else a.map (·.add (l * sz))) (h - l) (m - l)) w := by
  simp [Instr.sliceAt, Instr.slice, hu, hs, hb]

theorem bnd_lo (len cap : Nat) (k : IntKind) (l : Int) (h0 : 0 ≤ l) (hl : l ≤ len) (w : World) : (Instr.sliceBounds true len cap (some (.int k l)) none none).run P w = .ok (l.toNat, len, cap) w := by
  simp [Instr.sliceBounds, Instr.sliceBound, asIntOf, h0, hl]
theorem bnd_hi (len cap : Nat) (k : IntKind) (h : Int) (h0 : 0 ≤ h) (hl : h ≤ cap) (w : World) : (Instr.sliceBounds true len cap none (some (.int k h)) none).run P w = .ok (0, h.toNat, cap) w := by
  simp [Instr.sliceBounds, Instr.sliceBound, asIntOf, h0, hl]
theorem bnd_lohi (len cap : Nat) (k k' : IntKind) (l h : Int) (h0 : 0 ≤ l) (hlh : l ≤ h) (hl : h ≤ cap) (w : World) : (Instr.sliceBounds true len cap (some (.int k l)) (some (.int k' h)) none).run P w = .ok (l.toNat, h.toNat, cap) w := by
  have h1 : 0 ≤ h := by omega
  have h2 : l ≤ (h.toNat : Int) := by omega
  simp [Instr.sliceBounds, Instr.sliceBound, asIntOf, h0, h1, hl]
  intro hc; omega

theorem sli_shape {imm : Imm} {w : World} {k : IntKind} {xs : List Int} {u : Value} (h : RepD imm w (.sli k xs) u) : ∃ a c, u = .slice a xs.length c ∧ xs.length ≤ c := by
  rcases sli_inv h k xs rfl with ⟨rfl, a, c, rfl⟩ | ⟨b, off, c, rfl, _, hc, _⟩
  · exact ⟨a, c, rfl, Nat.zero_le _⟩
  · exact ⟨_, c, rfl, hc⟩
theorem sl_shape {imm : Imm} {w : World} {es : List V} {u : Value} (h : RepD imm w (.sl es) u) : ∃ a c, u = .slice a es.length c ∧ es.length ≤ c := by
  rcases sl_inv h es rfl with ⟨rfl, a, c, rfl⟩ | ⟨_, b, off, c, _, rfl, _, hc, _⟩
  · exact ⟨a, c, rfl, Nat.zero_le _⟩
  · exact ⟨_, c, rfl, hc⟩

theorem OpRun.cutLo (t e : TypeId) (x lo : Operand) (k kl : IntKind) (xs : List Int) (l : Int) (hd : dlt N d = true) (hu : ∀ w, (underlying t).run P w = .ok (.slice e) w) (hs : ∀ w, (sizeOf e).run P w = .ok 1 w) (h0 : 0 ≤ l) (hl : l ≤ xs.length) :
    OpRun P N ⟨d, .slice t x (some lo) none none, ty, pos, after, g⟩ [(x, .sli k xs), (lo, .v (.int kl l))] [] [] (.sli k (xs.drop l.toNat)) [] :=
  OpRun.val hd fun B imm env st a w h _ _ H => by
    have hx := H.ev h.1
    have hlo := int_ev H h.2.1
    simp only at hx hlo
    obtain ⟨ad, c, hxe, hc⟩ := sli_shape hx
    have hr := run_cut (P := P) t e 1 hu hs ad xs.length c (some (.int kl l)) none none _ _ _ w (bnd_lo xs.length c kl l h0 hl w)
    refine ⟨_, w, imm, env, by simp only [execOp, hxe, Option.map_some, Option.map_none, hlo, Sem.run_bind, hr, Result.andThen_ok, Sem.run_pure]; rfl, H, ?_⟩
    have hcut := sli_cut (l := l.toNat) (m := xs.length) (hxe ▸ hx) (by omega) (Nat.le_refl _) c (c - l.toNat) hc (by omega)
    rw [List.take_length] at hcut
    exact hcut
theorem OpRun.cutHi (t e : TypeId) (x hi : Operand) (k kh : IntKind) (xs : List Int) (h : Int) (hd : dlt N d = true) (hu : ∀ w, (underlying t).run P w = .ok (.slice e) w) (hs : ∀ w, (sizeOf e).run P w = .ok 1 w) (h0 : 0 ≤ h) (hl : h ≤ xs.length) :
    OpRun P N ⟨d, .slice t x none (some hi) none, ty, pos, after, g⟩ [(x, .sli k xs), (hi, .v (.int kh h))] [] [] (.sli k (xs.take h.toNat)) [] :=
  OpRun.val hd fun B imm env st a w hh _ _ H => by
    have hx := H.ev hh.1
    have hlo := int_ev H hh.2.1
    simp only at hx hlo
    obtain ⟨ad, c, hxe, hc⟩ := sli_shape hx
    have hr := run_cut (P := P) t e 1 hu hs ad xs.length c none (some (.int kh h)) none _ _ _ w (bnd_hi xs.length c kh h h0 (by omega) w)
    refine ⟨_, w, imm, env, by simp only [execOp, hxe, Option.map_some, Option.map_none, hlo, Sem.run_bind, hr, Result.andThen_ok, Sem.run_pure]; rfl, H, ?_⟩
    have hcut := sli_cut (l := 0) (m := h.toNat) (hxe ▸ hx) (by omega) (by omega) c (c - 0) (by omega) (by omega)
    rw [List.drop_zero] at hcut
    exact hcut
theorem OpRun.cutLoHi (t e : TypeId) (x lo hi : Operand) (k kl kh : IntKind) (xs : List Int) (l h : Int) (hd : dlt N d = true) (hu : ∀ w, (underlying t).run P w = .ok (.slice e) w) (hs : ∀ w, (sizeOf e).run P w = .ok 1 w) (h0 : 0 ≤ l) (hlh : l ≤ h) (hl : h ≤ xs.length) :
    OpRun P N ⟨d, .slice t x (some lo) (some hi) none, ty, pos, after, g⟩ [(x, .sli k xs), (lo, .v (.int kl l)), (hi, .v (.int kh h))] [] [] (.sli k ((xs.take h.toNat).drop l.toNat)) [] :=
  OpRun.val hd fun B imm env st a w hh _ _ H => by
    have hx := H.ev hh.1
    have hlo := int_ev H hh.2.1
    have hhi := int_ev H hh.2.2.1
    simp only at hx hlo hhi
    obtain ⟨ad, c, hxe, hc⟩ := sli_shape hx
    have hr := run_cut (P := P) t e 1 hu hs ad xs.length c (some (.int kl l)) (some (.int kh h)) none _ _ _ w (bnd_lohi xs.length c kl kh l h h0 hlh (by omega) w)
    refine ⟨_, w, imm, env, by simp only [execOp, hxe, Option.map_some, Option.map_none, hlo, hhi, Sem.run_bind, hr, Result.andThen_ok, Sem.run_pure]; rfl, H, ?_⟩
    exact sli_cut (l := l.toNat) (m := h.toNat) (hxe ▸ hx) (by omega) (by omega) c (c - l.toNat) (by omega) (by omega)
theorem OpRun.cutLLo (t e : TypeId) (x lo : Operand) (kl : IntKind) {α : Type} (f : α → V) (xs : List α) (sz : Nat) (l : Int) (hd : dlt N d = true) (hu : ∀ w, (underlying t).run P w = .ok (.slice e) w) (hs : ∀ w, (sizeOf e).run P w = .ok sz w) (hf : ∀ x, V.size (f x) = sz) (h0 : 0 ≤ l) (hl : l ≤ xs.length) :
    OpRun P N ⟨d, .slice t x (some lo) none none, ty, pos, after, g⟩ [(x, .sl (List.map f xs)), (lo, .v (.int kl l))] [] [] (.sl (List.map f (xs.drop l.toNat))) [] :=
  OpRun.val hd fun B imm env st a w h _ _ H => by
    have hx := H.ev h.1
    have hlo := int_ev H h.2.1
    simp only at hx hlo
    obtain ⟨ad, c, hxe, hc⟩ := sl_shape hx
    rw [List.length_map] at hxe hc
    have hsz : ∀ e, e ∈ List.map f xs → V.size e = sz := fun e he => by obtain ⟨q, _, rfl⟩ := List.mem_map.1 he; exact hf q
    have hr := run_cut (P := P) t e sz hu hs ad xs.length c (some (.int kl l)) none none _ _ _ w (bnd_lo xs.length c kl l h0 hl w)
    refine ⟨_, w, imm, env, by simp only [execOp, hxe, Option.map_some, Option.map_none, hlo, Sem.run_bind, hr, Result.andThen_ok, Sem.run_pure]; rfl, H, ?_⟩
    have hcut := sl_cut (l := l.toNat) (m := xs.length) (hxe ▸ hx) hsz (by omega) (by simp) c (c - l.toNat) hc (by omega)
    rw [show (List.map f xs).take xs.length = List.map f xs by rw [← List.map_take, List.take_length], ← List.map_drop] at hcut
    exact hcut
theorem OpRun.cutLHi (t e : TypeId) (x hi : Operand) (kh : IntKind) {α : Type} (f : α → V) (xs : List α) (sz : Nat) (h : Int) (hd : dlt N d = true) (hu : ∀ w, (underlying t).run P w = .ok (.slice e) w) (hs : ∀ w, (sizeOf e).run P w = .ok sz w) (hf : ∀ x, V.size (f x) = sz) (h0 : 0 ≤ h) (hl : h ≤ xs.length) :
    OpRun P N ⟨d, .slice t x none (some hi) none, ty, pos, after, g⟩ [(x, .sl (List.map f xs)), (hi, .v (.int kh h))] [] [] (.sl (List.map f (xs.take h.toNat))) [] :=
  OpRun.val hd fun B imm env st a w hh _ _ H => by
    have hx := H.ev hh.1
    have hlo := int_ev H hh.2.1
    simp only at hx hlo
    obtain ⟨ad, c, hxe, hc⟩ := sl_shape hx
    rw [List.length_map] at hxe hc
    have hsz : ∀ e, e ∈ List.map f xs → V.size e = sz := fun e he => by obtain ⟨q, _, rfl⟩ := List.mem_map.1 he; exact hf q
    have hr := run_cut (P := P) t e sz hu hs ad xs.length c none (some (.int kh h)) none _ _ _ w (bnd_hi xs.length c kh h h0 (by omega) w)
    refine ⟨_, w, imm, env, by simp only [execOp, hxe, Option.map_some, Option.map_none, hlo, Sem.run_bind, hr, Result.andThen_ok, Sem.run_pure]; rfl, H, ?_⟩
    have hcut := sl_cut (l := 0) (m := h.toNat) (hxe ▸ hx) hsz (by omega) (by simp; omega) c (c - 0) (by omega) (by omega)
    rw [List.drop_zero, ← List.map_take] at hcut
    exact hcut
theorem OpRun.cutLLoHi (t e : TypeId) (x lo hi : Operand) (kl kh : IntKind) {α : Type} (f : α → V) (xs : List α) (sz : Nat) (l h : Int) (hd : dlt N d = true) (hu : ∀ w, (underlying t).run P w = .ok (.slice e) w) (hs : ∀ w, (sizeOf e).run P w = .ok sz w) (hf : ∀ x, V.size (f x) = sz) (h0 : 0 ≤ l) (hlh : l ≤ h) (hl : h ≤ xs.length) :
    OpRun P N ⟨d, .slice t x (some lo) (some hi) none, ty, pos, after, g⟩ [(x, .sl (List.map f xs)), (lo, .v (.int kl l)), (hi, .v (.int kh h))] [] [] (.sl (List.map f ((xs.take h.toNat).drop l.toNat))) [] :=
  OpRun.val hd fun B imm env st a w hh _ _ H => by
    have hx := H.ev hh.1
    have hlo := int_ev H hh.2.1
    have hhi := int_ev H hh.2.2.1
    simp only at hx hlo hhi
    obtain ⟨ad, c, hxe, hc⟩ := sl_shape hx
    rw [List.length_map] at hxe hc
    have hsz : ∀ e, e ∈ List.map f xs → V.size e = sz := fun e he => by obtain ⟨q, _, rfl⟩ := List.mem_map.1 he; exact hf q
    have hr := run_cut (P := P) t e sz hu hs ad xs.length c (some (.int kl l)) (some (.int kh h)) none _ _ _ w (bnd_lohi xs.length c kl kh l h h0 hlh (by omega) w)
    refine ⟨_, w, imm, env, by simp only [execOp, hxe, Option.map_some, Option.map_none, hlo, hhi, Sem.run_bind, hr, Result.andThen_ok, Sem.run_pure]; rfl, H, ?_⟩
    have hcut := sl_cut (l := l.toNat) (m := h.toNat) (hxe ▸ hx) hsz (by omega) (by simp; omega) c (c - l.toNat) (by omega) (by omega)
    rw [← List.map_take, ← List.map_drop] at hcut
    exact hcut
end
end Go.X
