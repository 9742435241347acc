/- A part of an executor of the model over abstract values, and what it tells of the calls. -/
import Derived.Test.YtbaaogkpkgffdaaGreatDoorX6
namespace Go.Exe
open Go
set_option linter.unusedSectionVars false
variable [Env]

/-- a new row of cells: what is told of it is its first cells -/
theorem newBlk_sound {φ : PM} {h : Hp} {w : World} (k : WR φ h w) {x : AV} {pre : List Value} (hx : VL φ x pre) (op mk : Bool) (c : Array Value) (T : TypeId) (fr : Nat × Nat)
    (hpre : ∀ (j : Nat) (v : Value), pre[j]? = some v → c[j]? = some v) (hlen : pre.length ≤ c.size) (hmk : mk = false → fr = (0, 0)) (hfr : ∀ j, j < c.size → ¬ (fr.1 ≤ j ∧ j < fr.2)) :
    Stp φ h w (φ.set h.n ⟨w.heap.size, 0, c.size⟩) (newBlk h x op mk) { w with heap := w.heap.push (.cells c T fr) } := by
  have hle : φ.le (φ.set h.n ⟨w.heap.size, 0, c.size⟩) := PM.le_set _ (k.fresh _ (Nat.le_refl _)).2
  refine k.alloc (.cells c T fr) (.cells (lenL x) (putL x 0 .E) op mk) c.size ⟨c, T, fr, ?_, ?_, Nat.le_refl _, hmk, hfr, fun j a hj hg => ?_⟩
  · simp
  · rw [hx.len]; simpa using hlen
  · rw [hx.len] at hj
    obtain ⟨b, v, g1, g2, g3⟩ := (putL_get hx 0 .E j).2 (by omega) (by omega)
    rw [g1] at hg; cases hg
    exact ⟨v, by simpa using hpre j v (by simpa using g2), g3.mono hle⟩

noncomputable def newPtr (h : Hp) (cells : AV) : R1 := hpN h fun n => .v (.ptr n 0) (newBlk h cells false false)

theorem newPtr_sound {P : Program} {o : Oper} {act : Act} {φ : PM} {h : Hp} {w : World} (k : WR φ h w) {x : AV} {c : Array Value} (hx : VL φ x c.toList) {T : TypeId}
    (e : (execOp act.eval o).run P w = .ok (.value (.pointer (some ⟨w.heap.size, 0, none⟩))) { w with heap := w.heap.push (.cells c T) }) :
    Sound1 P o act φ h w (newPtr h x) := by
  refine ⟨_, _, _, _, e, .inl rfl, ?_, newBlk_sound k hx false false c T (0, 0) (fun j v hj => by simpa using hj) (by simp) (fun _ => rfl) (fun j _ => by simp)⟩
  exact ⟨_, PM.set_same _ _ _, by simp⟩

section
variable (tt : TT)

noncomputable def ty (t : Nat) : Option TE := getP (pt t) tt.t

/-! #### moves, picks -/
noncomputable def oMove (x : Operand) (fr : Fr) (h : Hp) : R1 := .v (ev x fr) h
noncomputable def oPick (c a b : Operand) (fr : Fr) (h : Hp) : R1 := onBool (.fail 2) (fun t => .v (sel t (ev a fr) (ev b fr)) h) (ev c fr)
noncomputable def oAlloc (e : Nat) (_ : Fr) (h : Hp) : R1 := ob (ty tt e) fun te => newPtr h te.zero
noncomputable def oBox (_ : Nat) (x : Operand) (fr : Fr) (h : Hp) : R1 := ob (cellsOf (ev x fr)) (newPtr h)

variable {tt} {P : Program} {o : Oper} {act : Act} {φ : PM} {fr : Fr} {h : Hp} {w : World}

theorem oMove_sound (kf : FR φ fr act) {x : Operand} (ho : o.op = .move x ∨ o.op = .assign x) : SoundP P o act φ h (oMove x fr h) := by
  refine SoundP.value (v := act.eval x) (fun w => ?_) (ev_sound kf x)
  rcases ho with ho | ho <;> simp [execOp, ho]

theorem oPick_sound (kf : FR φ fr act) {c a b : Operand} (ho : o.op = .pick c a b) : SoundP P o act φ h (oPick c a b fr h) := by
  have hc := ev_sound kf c
  unfold oPick
  refine onBool_elim trivial fun t et => ?_
  rw [et] at hc
  have hc : act.eval c = .bool t := hc
  refine SoundP.value (v := if t then act.eval a else act.eval b) (fun w => ?_) ?_
  · simp [execOp, ho, hc, asBool]
  · cases t with
    | true => exact ev_sound kf a
    | false => exact ev_sound kf b

theorem oAlloc_sound (ht : TTok P tt) (kw : WR φ h w) {e : Nat} (ho : o.op = .alloc e) : Sound1 P o act φ h w (oAlloc tt e fr h) := by
  unfold oAlloc
  refine ob_elim trivial fun te hte => ?_
  obtain ⟨i, z, hi, _, _, hz, _, hzl, _⟩ := (ht e te hte).info
  refine newPtr_sound kw (c := z.cells) (T := e) (hzl φ) ?_
  simp [execOp, ho, Instr.alloc, zeroValue, typeInfo, hi, hz, newVar, newRow]

theorem oBox_sound (kf : FR φ fr act) (kw : WR φ h w) {e : Nat} {x : Operand} (ho : o.op = .box e x) : Sound1 P o act φ h w (oBox e x fr h) := by
  unfold oBox
  refine ob_elim trivial fun c hc => ?_
  refine newPtr_sound kw (c := (act.eval x).cells) (T := e) (cellsOf_sound (ev_sound kf x) hc) ?_
  simp [execOp, ho, Instr.box, newVar, newRow]
end

/-! #### loads and stores -/
theorem run_isAgg {P : Program} {t : TypeId} {d : TypeDesc} (h : P.underlying t = some d) (w : World) : (isAgg t).run P w = .ok (aggD d) w := by
  unfold isAgg
  simp only [Sem.run_bind, run_underlying h, Result.andThen_ok]
  cases d <;> rfl
theorem run_sizeOf {P : Program} {t : TypeId} {i : TypeInfo} (h : P.info? t = some i) (w : World) : (sizeOf t).run P w = .ok i.size w := by
  simp [sizeOf, typeInfo, h]

noncomputable def aggO (l : AV) : Option AV := some (.agg l)
noncomputable def obO (o : Option AV) (k : AV → Option AV) : Option AV := Option.rec none k o
noncomputable def loadVar (te : TE) (h : Hp) (i : Pt) (o : Nat) : Option AV := sel te.isAgg (obO (loadN h i te.size o) aggO) (cellAt h i o)

theorem obO_inv {o : Option AV} {k : AV → Option AV} {x : AV} (h : obO o k = some x) : ∃ a, o = some a ∧ k a = some x := by
  cases o with
  | none => cases h
  | some a => exact ⟨a, rfl, h⟩

theorem loadVar_sound {P : Program} {φ : PM} {h : Hp} {w : World} (kw : WR φ h w) {t : Nat} {te : TE} (ht : TEok P t te) {i : Pt} {o : Nat} {x : AV} (e : loadVar te h i o = some x) {p : PB} (hp : φ i = some p) :
    ∃ v, (Go.loadVar t ⟨p.blk, p.off + o, none⟩).run P w = .ok v w ∧ VR φ x v := by
  obtain ⟨d, hd, _, hagg⟩ := ht.und
  obtain ⟨inf, z, hi, hs, _⟩ := ht.info
  unfold loadVar at e
  cases ha : te.isAgg with
  | true =>
    rw [ha] at e
    obtain ⟨l, hl, e2⟩ := obO_inv e
    cases e2
    obtain ⟨vs, hlen, hv, hc⟩ := kw.cells hl hp
    refine ⟨.agg vs.toArray, ?_, ⟨vs.toArray, rfl, hv⟩⟩
    have := run_loadCells P ⟨p.blk, p.off + o, none⟩ rfl vs te.size hlen w (fun j v hj => hc j v hj)
    simp [Go.loadVar, run_isAgg hd, hagg, ha, run_sizeOf hi, hs, this]
  | false =>
    rw [ha] at e
    obtain ⟨v, hv, hr⟩ := kw.cell e hp
    exact ⟨v, by simp [Go.loadVar, run_isAgg hd, hagg, ha, hv], hr⟩

section
variable (tt : TT)
noncomputable def oLoad (t : Nat) (a : Operand) (fr : Fr) (h : Hp) : R1 := onPtr (.fail 3) (fun i o => ob (ty tt t) fun te => ob (loadVar te h i o) (ret h)) (ev a fr)
noncomputable def storeV (te : TE) (h : Hp) (i : Pt) (o : Nat) (l : AV) : R1 := sel (Nat.beq (lenL l) te.size) (sel (allOne l) (ob (storeL h i o l) unit) (.fail 4)) (.fail 4)
noncomputable def oStore (t : Nat) (a v : Operand) (fr : Fr) (h : Hp) : R1 := onPtr (.fail 3) (fun i o => ob (ty tt t) fun te => ob (cellsOf (ev v fr)) (storeV te h i o)) (ev a fr)

variable {tt} {P : Program} {o : Oper} {act : Act} {φ : PM} {fr : Fr} {h : Hp} {w : World}

theorem oLoad_sound (ht : TTok P tt) (kf : FR φ fr act) (kw : WR φ h w) {t : Nat} {a : Operand} (ho : o.op = .load t a) : SoundR P o act φ h w (oLoad tt t a fr h) := by
  have ha := ev_sound kf a
  unfold oLoad
  refine onPtr_elim trivial fun i off ei => ob_elim trivial fun te hte => ob_elim trivial fun x hx => ?_
  rw [ei] at ha
  obtain ⟨p, hp, ep⟩ := ha
  obtain ⟨v, hrun, hv⟩ := loadVar_sound kw (ht t te hte) hx hp
  refine SoundR.value (v := v) ?_ hv
  simp [execOp, ho, Instr.loadAt, ep, Instr.sureAddr, hrun]

/-- a stretch of a block is written -/
theorem storeL_sound {P : Program} (kw : WR φ h w) {i : Pt} {off : Nat} {x : AV} {l : List Value} (hx : VL φ x l) (h1 : oneCells l) {h' : Hp} (e : storeL h i off x = some h') {p : PB} (hp : φ i = some p) :
    ∃ w', (storeCells ⟨p.blk, p.off + off, none⟩ l).run P w = .ok () w' ∧ Stp φ h w φ h' w' := by
  obtain ⟨s, t, op, mk, g, hb⟩ := blk_inv (k := storeIn h i off x) (h := h) (i := i) (d := none) (by show storeL h i off x ≠ none; rw [e]; simp)
  have e2 : storeIn h i off x s t op mk = some h' := by rw [← hb]; exact e
  obtain ⟨hwr, e2⟩ := sel_some_inv e2
  obtain ⟨hle, e3⟩ := sel_some_inv e2
  cases e3
  have hle : off + lenL x ≤ s := Nat.le_of_ble_eq_true hle
  rw [hx.len] at hle
  obtain ⟨q, hq, c, T, fr', hc, hs, htop, hmk, hf, hall⟩ := kw.obj _ _ g
  rw [hp] at hq; cases hq
  obtain ⟨w', c', hrun, hw', hsz, hbut, _, hget⟩ := run_storeCells P ⟨p.blk, p.off + off, none⟩ rfl l 0 w c T fr' hc (by simp; omega) (fun j h3 h4 => hf j (by simp at h4; omega)) h1
  refine ⟨w', hrun, kw.modify (wrF_wrI g hwr) hp hbut ⟨c', T, fr', hw', by omega, by omega, hmk, hf, fun j a hj hg => ?_⟩⟩
  rw [hget]
  by_cases hin : off ≤ j ∧ j < off + l.length
  · obtain ⟨b, v, g1, g2, g3⟩ := (putL_get hx off t j).2 hin.1 hin.2
    rw [g1] at hg; cases hg
    refine ⟨v, ?_, g3⟩
    simp only [Nat.add_zero]
    rw [if_pos (by omega), show p.off + j - (p.off + off) = j - off from by omega]; exact g2
  · rw [(putL_get hx off t j).1 (by omega)] at hg
    obtain ⟨v, hv, hr⟩ := hall j a hj hg
    refine ⟨v, ?_, hr⟩
    simp only [Nat.add_zero]
    rw [if_neg (by omega)]; exact hv

theorem oStore_sound (ht : TTok P tt) (kf : FR φ fr act) (kw : WR φ h w) {t : Nat} {a v : Operand} (ho : o.op = .store t a v) : Sound1 P o act φ h w (oStore tt t a v fr h) := by
  have ha := ev_sound kf a
  unfold oStore
  refine onPtr_elim trivial fun i off ei => ob_elim trivial fun te hte => ob_elim trivial fun x hx => sel_elim (fun hlen => sel_elim (fun h1 => ob_elim trivial fun h' hh => ?_) fun _ => trivial) fun _ => trivial
  rw [ei] at ha
  obtain ⟨p, hp, ep⟩ := ha
  have hv := cellsOf_sound (ev_sound kf v) hx
  obtain ⟨w', hrun, hst⟩ := storeL_sound (P := P) kw hv (allOne_sound hv h1) hh hp
  obtain ⟨inf, z, hi, hs, _⟩ := (ht t te hte).info
  have hsz : (act.eval v).cells.size = te.size := by rw [← Nat.eq_of_beq_eq_true hlen, hv.len]; simp
  refine ⟨_, undef, w', φ, ?_, .inr ⟨rfl, rfl⟩, VR.unk _ _, hst⟩
  simp [execOp, ho, Instr.storeAt, ep, Instr.sureAddr, storeVar, run_sizeOf hi, hs, hsz, hrun]
end
end Go.Exe
