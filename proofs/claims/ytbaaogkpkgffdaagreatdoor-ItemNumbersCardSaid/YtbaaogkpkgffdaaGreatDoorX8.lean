/- A part of an executor of the model over abstract values, and what it tells of the calls. -/
import Derived.Test.YtbaaogkpkgffdaaGreatDoorX7
import Derived.Laws.Tables
import Derived.Great.BuildSlice
namespace Go.Exe
open Go
set_option linter.unusedSectionVars false
variable [Env]

/-! ### cutting lists of values -/
noncomputable def takeL : Nat → AV → AV := Nat.rec (fun _ => .nil) (fun _ ih l => onCons .nil (fun a b => .cons a (ih b)) l)
noncomputable def dropL : Nat → AV → AV := Nat.rec (fun l => l) (fun _ ih l => onCons .nil (fun _ b => ih b) l)
noncomputable def nthL : Nat → AV → Option AV := Nat.rec (fun l => onCons none (fun a _ => some a) l) (fun _ ih l => onCons none (fun _ b => ih b) l)
noncomputable def overL (cells : AV) (off : Nat) (new : AV) : AV := appL (takeL off cells) (appL new (dropL (Nat.add off (lenL new)) cells))
noncomputable def repL (z : AV) : Nat → AV := Nat.rec .nil (fun _ ih => appL z ih)

theorem VL.take {φ : PM} : ∀ (n : Nat) {a : AV} {l : List Value}, VL φ a l → VL φ (takeL n a) (l.take n) := by
  intro n
  induction n with
  | zero => intro a l _; exact VL.nil _
  | succ n ih =>
    intro a l h
    cases a with
    | nil => rw [VL_nil_inv h]; exact VL.nil _
    | cons x b => obtain ⟨v, vs, rfl, h1, h2⟩ := VL_cons_inv h; exact VL.cons h1 (ih h2)
    | _ => exact False.elim h
theorem VL.drop {φ : PM} : ∀ (n : Nat) {a : AV} {l : List Value}, VL φ a l → VL φ (dropL n a) (l.drop n) := by
  intro n
  induction n with
  | zero => intro a l h; exact h
  | succ n ih =>
    intro a l h
    cases a with
    | nil => rw [VL_nil_inv h]; exact VL.nil _
    | cons x b => obtain ⟨v, vs, rfl, h1, h2⟩ := VL_cons_inv h; exact ih h2
    | _ => exact False.elim h
theorem VL.nth {φ : PM} : ∀ (n : Nat) {a : AV} {l : List Value} {x : AV}, VL φ a l → nthL n a = some x → ∃ v, l[n]? = some v ∧ VR φ x v := by
  intro n
  induction n with
  | zero =>
    intro a l x h e
    cases a with
    | nil => cases e
    | cons y b => obtain ⟨v, vs, rfl, h1, h2⟩ := VL_cons_inv h; cases e; exact ⟨v, rfl, h1⟩
    | _ => exact False.elim h
  | succ n ih =>
    intro a l x h e
    cases a with
    | nil => cases e
    | cons y b => obtain ⟨v, vs, rfl, h1, h2⟩ := VL_cons_inv h; exact ih h2 e
    | _ => exact False.elim h
theorem VL.over {φ : PM} {a b : AV} {l m : List Value} (off : Nat) (h : VL φ a l) (k : VL φ b m) : VL φ (overL a off b) (l.take off ++ (m ++ l.drop (off + m.length))) := by
  unfold overL
  rw [k.len]
  exact (h.take off).app (k.app (h.drop (off + m.length)))

/-- what 'fill' does with one part -/
theorem fill_fold (off : Nat) : ∀ (new : List Value) (k : Nat) (cells : Array Value), off + k + new.length ≤ cells.size →
    ((new.toArray.zipIdx k).foldl (fun (cs : Array Value) (x : Value × Nat) => cs.setIfInBounds (off + x.2) x.1) cells).toList = cells.toList.take (off + k) ++ (new ++ cells.toList.drop (off + k + new.length)) := by
  intro new
  induction new with
  | nil => intro k cells _; simp only [← Array.foldl_toList]; simp
  | cons v new ih =>
    intro k cells h
    have hlt : off + k < cells.size := by simp at h; omega
    have := ih (k + 1) (cells.setIfInBounds (off + k) v) (by simp at h ⊢; omega)
    simp only [← Array.foldl_toList, Array.toList_zipIdx, List.zipIdx_cons, List.foldl_cons] at this ⊢
    rw [this]
    apply List.ext_getElem?
    intro j
    simp only [Array.toList_setIfInBounds, List.getElem?_append, List.length_take, List.length_set, Array.length_toList, List.getElem?_take, List.getElem?_set, List.length_cons, List.getElem?_drop]
    have hm1 : min (off + (k + 1)) cells.size = off + k + 1 := by omega
    have hm2 : min (off + k) cells.size = off + k := by omega
    rw [hm1, hm2]
    by_cases c1 : j < off + k
    · rw [if_pos (by omega), if_pos (by omega), if_neg (by omega), if_pos c1, if_pos c1]
    · by_cases c2 : j = off + k
      · subst c2
        rw [if_pos (by omega), if_pos (by omega), if_pos rfl, if_pos hlt, if_neg (by omega), if_pos (by omega)]
        simp
      · rw [if_neg (by omega), if_neg c1]
        by_cases c3 : j - (off + k + 1) < new.length
        · rw [if_pos c3, if_pos (by omega), show j - (off + k) = (j - (off + k + 1)) + 1 from by omega, List.getElem?_cons_succ]
        · rw [if_neg c3, if_neg (by omega), if_neg (by omega)]
          congr 1
          omega

/-! ### parts -/
noncomputable def part1 (ih : AV → Option AV) (z : AV) (off size : Nat) (cs : AV) : Option AV := sel (Nat.beq (lenL cs) size) (sel (Nat.ble (Nat.add off size) (lenL z)) (ih (overL z off cs)) none) none
noncomputable def part2 (ih : AV → Option AV) (z : AV) (c : Option AV) (p : Nat × Nat) : Option AV := obO c (part1 ih z p.1 p.2)
noncomputable def putParts (pl : Nat → Option (Nat × Nat)) (fr : Fr) (l : List (Nat × Operand)) : AV → Option AV :=
  List.rec (motive := fun _ => AV → Option AV) (fun z => some z) (fun p _ ih z => Option.rec none (part2 ih z (cellsOf (ev p.2 fr))) (pl p.1)) l

theorem putParts_sound {φ : PM} {fr : Fr} {act : Act} (kf : FR φ fr act) {pl : Nat → Option (Nat × Nat)} {pl' : Nat → Option (Nat × Nat)} (hpl : ∀ i x, pl i = some x → pl' i = some x) :
    ∀ (l : List (Nat × Operand)) {z x : AV} {cells : Array Value}, VL φ z cells.toList → putParts pl fr l z = some x →
      ∃ c', Instr.fill pl' cells (l.map fun p => (p.1, act.eval p.2)) = some c' ∧ VL φ x c'.toList := by
  intro l
  induction l with
  | nil => intro z x cells hz e; cases e; exact ⟨cells, rfl, hz⟩
  | cons p l ih =>
    intro z x cells hz e
    have e1 : (Option.rec none (part2 (putParts pl fr l) z (cellsOf (ev p.2 fr))) (pl p.1) : Option AV) = some x := e
    cases hp : pl p.1 with
    | none => rw [hp] at e1; cases e1
    | some q =>
      rw [hp] at e1
      obtain ⟨cs, hcs, e2⟩ := obO_inv e1
      obtain ⟨b1, e3⟩ := sel_some_inv e2
      obtain ⟨b2, e4⟩ := sel_some_inv e3
      have hv := cellsOf_sound (ev_sound kf p.2) hcs
      have hlen : (act.eval p.2).cells.size = q.2 := by rw [← Nat.eq_of_beq_eq_true b1, hv.len]; simp
      have hle : q.1 + q.2 ≤ cells.size := by
        have : q.1 + q.2 ≤ lenL z := Nat.le_of_ble_eq_true b2
        rw [hz.len] at this; simpa using this
      have hff := fill_fold q.1 (act.eval p.2).cells.toList 0 cells (by simp; omega)
      simp only [Nat.add_zero, Array.toArray_toList] at hff
      have hov : VL φ (overL z q.1 cs) (((act.eval p.2).cells.zipIdx.foldl (fun (cs : Array Value) (x : Value × Nat) => cs.setIfInBounds (q.1 + x.2) x.1) cells)).toList := by
        rw [hff]; exact hz.over q.1 hv
      obtain ⟨c', hc', hx⟩ := ih hov e4
      refine ⟨c', ?_, hx⟩
      simp only [List.map_cons, Instr.fill, hpl _ _ hp]
      rw [if_neg (by simp [hlen]; omega)]
      exact hc'

theorem places_of {P : Program} : ∀ {gs : List FI} {fs : List Field}, FsOk P gs fs →
    fs.mapM (fun f => (P.info? f.type).map fun i => (f.offset, i.size)) = some (gs.map fun g => (g.off, g.size))
  | [], [], _ => rfl
  | g :: gs, f :: fs, ⟨h, hr⟩ => by
    obtain ⟨i, hi, hs⟩ := h.size
    simp [List.mapM_cons, hi, hs, h.off, places_of hr]

/-- rows of zero values -/
theorem VL_rep {φ : PM} {z : AV} {c : Array Value} (h : VL φ z c.toList) : ∀ n : Nat, VL φ (repL z n) ((Array.range (n * c.size)).map (c[· % c.size]!)).toList := by
  intro n
  induction n with
  | zero =>
    rw [show ((Array.range (0 * c.size)).map (c[· % c.size]!)).toList = [] from by simp]
    exact VL.nil φ
  | succ n ih =>
    have : ((Array.range ((n + 1) * c.size)).map (c[· % c.size]!)).toList = c.toList ++ ((Array.range (n * c.size)).map (c[· % c.size]!)).toList := by
      simp only [Array.toList_map, Array.toList_range]
      rw [show (n + 1) * c.size = c.size + n * c.size from by rw [Nat.add_mul, Nat.one_mul, Nat.add_comm], List.range_add, List.map_append, List.map_map]
      congr 1
      · apply List.ext_getElem
        · simp
        · intro j h1 h2
          simp at h1 h2 ⊢
          simp [Nat.mod_eq_of_lt h2, h2]
      · apply List.map_congr_left
        intro j _
        simp [Nat.add_mod_left]
    rw [this]
    exact h.app ih

section
variable (tt : TT)
noncomputable def aggR (h : Hp) (cs : AV) : R1 := .v (.agg cs) h
noncomputable def nthF {α : Type} (l : List α) : Nat → Option α := List.rec (motive := fun _ => Nat → Option α) (fun _ => none) (fun a _ ih i => Nat.rec (some a) (fun i _ => ih i) i) l
noncomputable def plS (fs : List FI) (i : Nat) : Option (Nat × Nat) := Option.rec none (fun g => some (g.off, g.size)) (nthF fs i)
noncomputable def plA (s i : Nat) : Option (Nat × Nat) := some (Nat.mul i s, s)
noncomputable def tiCase {β : Type} (d : β) (sl : Nat → β) (ar : Nat → Nat → β) (st : List FI → β) (x : TI) : β := TI.rec (motive := fun _ => β) (fun _ => d) d d (fun _ => d) sl ar (fun _ _ => d) st d d x
noncomputable def oBuild (t : Nat) (parts : Array (Nat × Operand)) (fr : Fr) (h : Hp) : R1 := ob (ty tt t) fun te =>
  tiCase (.fail 6) (fun _ => .fail 6) (fun _ e => ob (ty tt e) fun te2 => ob (putParts (plA te2.size) fr parts.toList te.zero) (aggR h)) (fun fs => ob (putParts (plS fs) fr parts.toList te.zero) (aggR h)) te.ti
noncomputable def elemOf (t : Nat) (k : Nat → TE → R1) : R1 := ob (ty tt t) fun te => tiCase (.fail 6) (fun e => ob (ty tt e) (k e)) (fun _ _ => .fail 6) (fun _ => .fail 6) te.ti
noncomputable def arrOf (t : Nat) (k : Nat → Nat → TE → R1) : R1 := ob (ty tt t) fun te => tiCase (.fail 6) (fun _ => .fail 6) (fun n e => ob (ty tt e) (k n e)) (fun _ => .fail 6) te.ti
noncomputable def fldOf (t : Nat) (k : List FI → R1) : R1 := ob (ty tt t) fun te => tiCase (.fail 6) (fun _ => .fail 6) (fun _ _ => .fail 6) k te.ti
noncomputable def oBuildSlice (t len : Nat) (parts : Array (Nat × Operand)) (fr : Fr) (h : Hp) : R1 := elemOf tt t fun _ te =>
  sel (Nat.ble (Nat.mul len te.size) 16777216) (ob (putParts (plA te.size) fr parts.toList (repL te.zero len)) fun cs => .v (.sl h.n 0 len len te.size false) (newBlk h cs false false)) (.fail 7)

theorem tiCase_elim {β : Type} {C : β → Prop} {d : β} {sl : Nat → β} {ar : Nat → Nat → β} {st : List FI → β} {x : TI} (hd : C d) (hs : ∀ e, x = .slice e → C (sl e)) (ha : ∀ n e, x = .arr n e → C (ar n e)) (ht : ∀ fs, x = .struct fs → C (st fs)) : C (tiCase d sl ar st x) := by
  cases x <;> first | exact hd | exact hs _ rfl | exact ha _ _ rfl | exact ht _ rfl

theorem nthF_eq {α : Type} : ∀ (l : List α) (i : Nat), nthF l i = l[i]?
  | [], _ => rfl
  | _ :: _, 0 => rfl
  | _ :: l, i + 1 => nthF_eq l i

variable {tt} {P : Program} {o : Oper} {act : Act} {φ : PM} {fr : Fr} {h : Hp} {w : World}

theorem elemOf_elim {C : R1 → Prop} {t : Nat} {k : Nat → TE → R1} (ht : TTok P tt) (hf : ∀ n, C (.fail n)) (hk : ∀ e te, P.underlying t = some (.slice e) → TEok P e te → C (k e te)) : C (elemOf tt t k) := by
  unfold elemOf
  refine ob_elim (hf _) fun te hte => tiCase_elim (hf _) (fun e he => ob_elim (hf _) fun te2 hte2 => ?_) (fun _ _ _ => hf _) (fun _ _ => hf _)
  obtain ⟨d, hd, hti, _⟩ := (ht t te hte).und
  rw [he] at hti
  cases d <;> simp [TIok] at hti
  subst hti
  exact hk e te2 hd (ht e te2 hte2)
theorem arrOf_elim {C : R1 → Prop} {t : Nat} {k : Nat → Nat → TE → R1} (ht : TTok P tt) (hf : ∀ n, C (.fail n)) (hk : ∀ n e te, P.underlying t = some (.array n e) → TEok P e te → C (k n e te)) : C (arrOf tt t k) := by
  unfold arrOf
  refine ob_elim (hf _) fun te hte => tiCase_elim (hf _) (fun _ _ => hf _) (fun n e he => ob_elim (hf _) fun te2 hte2 => ?_) (fun _ _ => hf _)
  obtain ⟨d, hd, hti, _⟩ := (ht t te hte).und
  rw [he] at hti
  cases d <;> simp [TIok] at hti
  obtain ⟨rfl, rfl⟩ := hti
  exact hk n e te2 hd (ht e te2 hte2)
theorem fldOf_elim {C : R1 → Prop} {t : Nat} {k : List FI → R1} (ht : TTok P tt) (hf : ∀ n, C (.fail n)) (hk : ∀ fs fields, P.underlying t = some (.struct fields) → FsOk P fs fields.toList → C (k fs)) : C (fldOf tt t k) := by
  unfold fldOf
  refine ob_elim (hf _) fun te hte => tiCase_elim (hf _) (fun _ _ => hf _) (fun _ _ _ => hf _) (fun fs he => ?_)
  obtain ⟨d, hd, hti, _⟩ := (ht t te hte).und
  rw [he] at hti
  cases d <;> simp [TIok] at hti
  exact hk fs _ hd hti

theorem plS_sound {gs : List FI} {i : Nat} {x : Nat × Nat} (e : plS gs i = some x) : ((gs.map fun g => (g.off, g.size)).toArray)[i]? = some x := by
  unfold plS at e
  rw [nthF_eq] at e
  cases hg : gs[i]? with
  | none => rw [hg] at e; cases e
  | some g => rw [hg] at e; cases e; simp [hg]

theorem toList_map_parts (parts : Array (Nat × Operand)) (f : Operand → Value) : (parts.map fun (x : Nat × Operand) => match x with | (i, y) => (i, f y)).toList = parts.toList.map fun p => (p.1, f p.2) := by
  simp

theorem oBuild_sound (ht : TTok P tt) (kf : FR φ fr act) {t : Nat} {parts : Array (Nat × Operand)} (ho : o.op = .build t parts) : SoundP P o act φ h (oBuild tt t parts fr h) := by
  have key : ∀ (cs : AV) (cells : Array Value), P.built t (parts.map fun (i, x) => (i, act.eval x)).toList = some cells → VL φ cs cells.toList → SoundP P o act φ h (aggR h cs) := by
    intro cs cells hb hv
    refine SoundP.value (v := .agg cells) (fun w => ?_) ⟨cells, rfl, hv⟩
    simp only [execOp, ho]
    exact run_value (run_build w t _ cells hb)
  unfold oBuild
  refine ob_elim trivial fun te hte => ?_
  obtain ⟨i, z, hi, _, _, hz, _, hzl, _⟩ := (ht t te hte).info
  obtain ⟨d, hd, hti, _⟩ := (ht t te hte).und
  refine tiCase_elim trivial (fun _ _ => trivial) (fun n e he => ob_elim trivial fun te2 hte2 => ob_elim trivial fun cs hcs => ?_) (fun fs he => ob_elim trivial fun cs hcs => ?_)
  · rw [he] at hti
    cases d <;> simp [TIok] at hti
    obtain ⟨rfl, rfl⟩ := hti
    obtain ⟨ie, ze, hie, hse, _⟩ := (ht _ te2 hte2).info
    obtain ⟨c', hc', hx⟩ := putParts_sound kf (pl' := fun i => some (i * ie.size, ie.size)) (fun i x hx => by rw [hse]; exact hx) parts.toList (hzl φ) hcs
    refine key cs c' ?_ hx
    unfold Program.built
    rw [toList_map_parts]
    simp only [hi, hd, hz, hie, hc']
  · rw [he] at hti
    cases d <;> simp [TIok] at hti
    obtain ⟨c', hc', hx⟩ := putParts_sound kf (pl' := fun i => ((fs.map fun g => (g.off, g.size)).toArray)[i]?) (fun i x hx => plS_sound hx) parts.toList (hzl φ) hcs
    refine key cs c' ?_ hx
    unfold Program.built
    rw [toList_map_parts]
    simp only [hi, hd, hz, places_of hti, hc']

theorem oBuildSlice_sound (ht : TTok P tt) (kf : FR φ fr act) (kw : WR φ h w) {t len : Nat} {parts : Array (Nat × Operand)} (ho : o.op = .buildSlice t len parts) : Sound1 P o act φ h w (oBuildSlice tt t len parts fr h) := by
  unfold oBuildSlice
  refine elemOf_elim ht (fun _ => trivial) fun e te hu hte => sel_elim (fun hs => ob_elim trivial fun cs hcs => ?_) fun _ => trivial
  obtain ⟨i, z, hi, hsz, _, hz, _, hzl, hzs⟩ := hte.info
  have hs : len * te.size ≤ 16777216 := Nat.le_of_ble_eq_true hs
  have hrep := VL_rep (hzl φ) len
  have fin : ∀ (cells : Array Value), VL φ cs cells.toList → (Instr.buildSlice t len (parts.map fun (i, x) => (i, act.eval x))).run P w = .ok (.slice (some ⟨w.heap.size, 0, none⟩) len len) { w with heap := w.heap.push (.cells cells e) } →
      Sound1 P o act φ h w (.v (.sl h.n 0 len len te.size false) (newBlk h cs false false)) := by
    intro cells hv hrun
    refine ⟨_, _, _, _, by simp only [execOp, ho]; exact run_value hrun, .inl rfl, ?_, newBlk_sound kw hv false false cells e (0, 0) (fun j v hj => by simpa using hj) (by simp) (fun _ => rfl) (fun j _ => by simp)⟩
    exact ⟨_, len, PM.set_same _ _ _, by simp, Nat.le_refl _, fun _ => rfl, fun h => by cases h⟩
  obtain ⟨c', hc', hx⟩ := putParts_sound kf (pl' := fun j => some (j * i.size, i.size)) (cells := (Array.range (len * z.cells.size)).map (z.cells[· % z.cells.size]!)) (fun i x hx => by rw [hsz]; exact hx) parts.toList hrep hcs
  refine fin c' hx ?_
  by_cases h0 : len * i.size = 0
  · have hcc : (Array.range (len * z.cells.size)).map (z.cells[· % z.cells.size]!) = #[] := by rw [hzs, ← hsz, h0]; simp
    rw [hcc] at hc'
    simp [Instr.buildSlice, run_underlying hu, sizeOf, typeInfo, hi, h0, newRow]
    rw [show Array.map (fun _ => (default : Value)) (Array.range 0) = #[] from by simp, hc']
    rfl
  · refine run_buildSlice w t e len _ c' i z hu hi hz (by rw [hsz]; omega) h0 ?_
    rw [toList_map_parts, ← hc', hzs, hsz]
end
end Go.Exe
