/- A part of an executor of the model over abstract values, and what it tells of the calls. -/
import Derived.Test.YtbaaogkpkgffdaaGreatDoorX16
import Derived.DeepKeys3
namespace Go.Exe
open Go
set_option linter.unusedSectionVars false
variable [Env]

/-! ### maps: keys of a flat type -/
section
variable {P : Program} {w : World}

theorem checkKey_flat (em : Bool) : ∀ (d : Nat) {t : TypeId} {ks : List CK}, flatK P d t = some ks → ∀ (k : Nat) (xs : List Value), xs.length = ks.length → (Instr.checkKey em (d + k) t (valT P t xs)).run P w = .ok () w := by
  intro d
  induction d with
  | zero => intro t ks h; cases h
  | succ d ih =>
    intro t ks h k xs hl
    have hfuel : d + 1 + k = (d + k) + 1 := by omega
    cases hu : P.underlying t with
    | none => simp [flatK, hu, ckOf] at h
    | some de =>
      have scalar : ∀ c, ckOf P t = some c → aggD de = false → ks = [c] → (Instr.checkKey em (d + 1 + k) t (valT P t xs)).run P w = .ok () w := by
        intro c hc hg hk
        subst hk
        match xs, hl with
        | [x], _ =>
          have e1 : valT P t [x] = x := by simp [valT, isAggT, hu, hg]
          rw [e1, hfuel, Instr.checkKey]
          unfold ckOf at hc
          rw [hu] at hc
          cases de <;> first | (cases hc; done) | simp [run_underlying hu]
      unfold flatK at h
      rw [hu] at h
      cases de with
      | struct fs =>
        simp only at h
        split at h
        · cases h
        · split at h
          · rename_i ls hls
            split at h
            · cases h
              have e1 : ∀ l, valT P t l = .agg l.toArray := fun l => by simp [valT, isAggT, hu, aggD]
              rw [e1, hfuel, Instr.checkKey]
              simp only [Sem.run_bind, run_underlying hu, Result.andThen_ok]
              rw [← Array.forIn_toList]
              have key : ∀ (fl : List Field) (acc : Nat) (ks : List CK), flatF P (flatK P d) fl acc = some ks → acc + ks.length ≤ xs.length →
                  ((forIn fl PUnit.unit fun f _ => (if f.name ≠ "_" then (do
                    Instr.checkKey em (d + k) f.type (← part f.type xs.toArray f.offset)
                    pure (ForInStep.yield PUnit.unit)) else pure (ForInStep.yield PUnit.unit) : Sem (ForInStep PUnit))) : Sem PUnit).run P w = .ok PUnit.unit w := by
                intro fl
                induction fl with
                | nil => intro acc ks _ _; simp
                | cons f fl ihf =>
                  intro acc ks hk hx
                  unfold flatF at hk
                  split at hk
                  · cases hk
                  · rename_i hn
                    have hn1 : f.name ≠ "_" := fun e => hn (.inl e)
                    have hn2 : f.offset = acc := by
                      rcases Nat.decEq f.offset acc with h | h
                      · exact absurd (.inr h) hn
                      · exact h
                    split at hk
                    · cases hk
                    · rename_i k1 hk1
                      split at hk
                      · cases hk
                      · rename_i k2 hk2
                        cases hk
                        have hl1 := flatK_len d hk1
                        simp only [List.length_append] at hx
                        have p1 := run_part hk1 xs.toArray acc (by simp; omega) w
                        have p2 := ih hk1 k ((xs.drop acc).take k1.length) (by simp; omega)
                        simp only [List.forIn_cons, Sem.run_bind, if_pos hn1, hn2, Result.andThen_ok, p1]
                        simp only [Result.andThen_ok, p2, Sem.run_pure]
                        exact ihf _ k2 hk2 (by omega)
              rw [key fs.toList 0 _ hls (by omega)]
              rfl
            · cases h
          · cases h
      | array n e =>
        simp only at h
        split at h
        · rename_i k1 hk1
          split at h
          · cases h
            obtain ⟨ie, hie⟩ : ∃ i, P.info? e = some i := by
              cases d with
              | zero => cases hk1
              | succ d =>
                cases hue : P.underlying e with
                | none => simp [flatK, hue, ckOf] at hk1
                | some de => exact info_of_underlying hue
            have e1 : ∀ l, valT P t l = .agg l.toArray := fun l => by simp [valT, isAggT, hu, aggD]
            have hl1 := flatK_len d hk1
            have hsz : P.cellsOf e = ie.size := by simp [Program.cellsOf, hie]
            rw [e1, hfuel, Instr.checkKey]
            simp only [Sem.run_bind, run_underlying hu, Result.andThen_ok]
            simp only [Std.Legacy.Range.forIn_eq_forIn_range', Std.Legacy.Range.size, Nat.sub_zero, Nat.add_one_sub_one, Nat.div_one]
            have key : ∀ (m i : Nat), i * k1.length + (repK k1 m).length ≤ xs.length →
                ((forIn (List.range' i m) PUnit.unit fun j _ => (do
                    Instr.checkKey em (d + k) e (← part e xs.toArray (j * (← sizeOf e)))
                    pure (ForInStep.yield PUnit.unit) : Sem (ForInStep PUnit))) : Sem PUnit).run P w = .ok PUnit.unit w := by
              intro m
              induction m with
              | zero => intro i _; simp
              | succ m ihm =>
                intro i hx
                simp only [repK, List.length_append] at hx
                have p1 := run_part hk1 xs.toArray (i * k1.length) (by simp; omega) w
                have p2 := ih hk1 k ((xs.drop (i * k1.length)).take k1.length) (by simp; omega)
                rw [List.range'_succ]
                simp only [List.forIn_cons, Sem.run_bind, run_sizeOf hie, Result.andThen_ok, ← hsz, ← hl1, p1]
                simp only [Result.andThen_ok, p2, Sem.run_pure]
                exact ihm (i + 1) (by rw [Nat.add_mul]; omega)
            rw [key n 0 (by omega)]
            rfl
          · cases h
        · cases h
      | _ =>
        simp only at h
        split at h
        · rename_i c hc
          split at h
          · cases h; exact scalar c hc rfl rfl
          · cases h
        · cases h

/-- what a search for a key meets -/
def FindsTo (P : Program) (w : World) (kt : TypeId) (u : Value) : List MapEntry → Nat → Option (Nat × Value) → Prop
  | [], _, r => r = none
  | e :: es, i, r => (Op.equal kt u e.key).run P w = .ok true w ∧ r = some (i, e.val) ∨ (Op.equal kt u e.key).run P w = .ok false w ∧ FindsTo P w kt u es (i + 1) r

theorem sameNow_equal {kt : TypeId} {d : TypeDesc} {u v : Value} (hd : P.underlying kt = some d) {b r : Bool} (h : Instr.sameNow d u v = some b) (hr : (Op.equal kt u v).run P w = .ok r w) : r = b := by
  unfold Instr.sameNow at h
  split at h
  · rename_i q k a k' b'
    split at h
    · rename_i hk
      subst hk
      cases h
      obtain ⟨n, hn⟩ : ∃ n, Op.maxDepth = n + 1 := ⟨9999, rfl⟩
      rw [Op.equal, hn] at hr
      simp [Op.equalIn, run_underlying hd] at hr
      exact hr.symm
    · cases h
  · cases h
    obtain ⟨n, hn⟩ : ∃ n, Op.maxDepth = n + 1 := ⟨9999, rfl⟩
    rw [Op.equal, hn] at hr
    simp [Op.equalIn, run_underlying hd] at hr
    exact hr.symm
  · cases h
    obtain ⟨n, hn⟩ : ∃ n, Op.maxDepth = n + 1 := ⟨9999, rfl⟩
    rw [Op.equal, hn] at hr
    simp [Op.equalIn, run_underlying hd] at hr
    exact hr.symm
  · cases h

theorem find_run {kt : TypeId} {d : TypeDesc} {u : Value} (hd : P.underlying kt = some d) : ∀ (l : List MapEntry) (i : Nat) (r : Option (Nat × Value)), FindsTo P w kt u l i r →
    (Instr.findAsking kt u l i).run P w = .ok r w ∧ ∀ x, Instr.findNow d u l i = some x → x = r
  | [], i, r, h => by
    have h : r = none := h
    subst h
    exact ⟨by simp [Instr.findAsking], fun x hx => by simp [Instr.findNow] at hx; exact hx.symm⟩
  | e :: es, i, r, h => by
    rcases h with ⟨h1, rfl⟩ | ⟨h1, h2⟩
    · refine ⟨by simp [Instr.findAsking, h1], fun x hx => ?_⟩
      unfold Instr.findNow at hx
      split at hx
      · exact (Option.some.inj hx).symm
      · rename_i hs; have := sameNow_equal hd hs h1; cases this
      · cases hx
    · obtain ⟨i1, i2⟩ := find_run hd es (i + 1) r h2
      refine ⟨by simp [Instr.findAsking, h1, i1], fun x hx => ?_⟩
      unfold Instr.findNow at hx
      split at hx
      · rename_i hs; have := sameNow_equal hd hs h1; cases this
      · exact i2 x hx
      · cases hx
theorem findKey_run {kt : TypeId} {d : TypeDesc} {u : Value} (hd : P.underlying kt = some d) {l : List MapEntry} {r : Option (Nat × Value)} (h : FindsTo P w kt u l 0 r) : (Instr.findKey kt u l).run P w = .ok r w := by
  obtain ⟨h1, h2⟩ := find_run hd l 0 r h
  unfold Instr.findKey
  simp only [Sem.run_bind, run_underlying hd, Result.andThen_ok]
  cases hf : Instr.findNow d u l 0 with
  | none => simpa using h1
  | some x => rw [h2 x hf]; simp
end

/-! ### maps, abstractly -/
/-- a value of a flat type: its cells are as many as its type has -/
noncomputable def keyOk (te : TE) (k : AV) : Bool := List.rec (motive := fun _ => Bool) false (fun _ _ _ => sel te.isAgg (onAgg false (fun cs => Nat.beq (lenL cs) te.size) k) (isOne k)) te.cmp
inductive MF where | fail | none | at (i : Nat) (k v : AV)
noncomputable def fnd (te : TE) (h : Hp) (k : AV) (m : ML) : Nat → MF := ML.rec (motive := fun _ => Nat → MF) (fun _ => .none) (fun k' v _ ih i => Option.rec (motive := fun _ => MF) .fail (fun b => sel b (.at i k' v) (ih (Nat.succ i))) (eqFlat te h k k')) m
noncomputable def snocM (k v : AV) (m : ML) : ML := ML.rec (motive := fun _ => ML) (.c k v .nil) (fun k' v' _ ih => .c k' v' ih) m
noncomputable def setM (k v : AV) (m : ML) : Nat → ML := ML.rec (motive := fun _ => Nat → ML) (fun _ => .nil) (fun k' v' r ih i => Nat.rec (motive := fun _ => ML) (.c k v r) (fun j _ => .c k' v' (ih j)) i) m
noncomputable def lenM (m : ML) : Nat := ML.rec (motive := fun _ => Nat) 0 (fun _ _ _ ih => Nat.succ ih) m
noncomputable def hoM {β : Type} (d : β) (k : ML → β) (o : HO) : β := HO.rec (motive := fun _ => β) (fun _ _ _ _ => d) (fun _ _ _ => d) k (fun _ => d) (fun _ _ _ => d) o
noncomputable def map2 {β : Type} (d : β) (k u : ML → β) (h : Hp) (i : Pt) : β := Option.rec d (fun o => HO.rec (motive := fun _ => β) (fun _ _ _ _ => d) (fun _ _ _ => d) k u (fun _ _ _ => d) o) (getP i h.t)
noncomputable def eqAVm (x y : AV) : Bool := decide (x = y)
/-- the value at a key, whatever the order is -/
noncomputable def fndU (te : TE) (h : Hp) (k : AV) (m : ML) : MF := ML.rec (motive := fun _ => MF) .none (fun k' v _ ih => Option.rec (motive := fun _ => MF) .fail (fun b => sel b (MF.rec (motive := fun _ => MF) .fail (.at 0 k' v) (fun _ _ v2 => sel (eqAVm v2 v) (.at 0 k' v) .fail) ih) ih) (eqFlat te h k k')) m
noncomputable def mapAt {β : Type} (d : β) (k : ML → β) (h : Hp) (i : Pt) : β := Option.rec d (hoM d k) (getP i h.t)
section
variable (tt : TT)
noncomputable def tiMap {β : Type} (d : β) (k : Nat → Nat → β) (x : TI) : β := TI.rec (motive := fun _ => β) (fun _ => d) d d (fun _ => d) (fun _ => d) (fun _ _ => d) k (fun _ => d) d d x
noncomputable def mapT (t : Nat) (k : TE → TE → R1) : R1 := ob (ty tt t) fun te => tiMap (.fail 85) (fun a b => ob (ty tt a) fun ka => ob (ty tt b) fun eb => k ka eb) te.ti
noncomputable def lkRes (ok : Bool) (h : Hp) (v : AV) (b : Bool) : R1 := sel ok (.v (.tup (.cons v (.cons (.bool b) .nil))) h) (.v v h)
noncomputable def lkF (eb : TE) (ok : Bool) (h : Hp) (r : MF) : R1 := MF.rec (motive := fun _ => R1) (.fail 86) (lkRes ok h eb.zv false) (fun _ _ v => lkRes ok h v true) r
noncomputable def oLk (t : Nat) (x ix : Operand) (ok : Bool) (fr : Fr) (h : Hp) : R1 := mapT tt t fun ka eb => sel (keyOk ka (ev ix fr)) (onMap (onNilm (.fail 87) (lkF eb ok h .none) (ev x fr)) (fun i => map2 (.fail 87) (fun m => lkF eb ok h (fnd ka h (ev ix fr) m 0)) (fun m => lkF eb ok h (fndU ka h (ev ix fr) m)) h i) (ev x fr)) (.fail 87)
noncomputable def lenM2 (h : Hp) (m : ML) : R1 := .v (natV (lenM m)) h
noncomputable def lenX (t : Nat) (x : AV) (h : Hp) : R1 := onMap (lenV tt t x h) (fun i => mapT tt t fun _ _ => map2 (.fail 54) (lenM2 h) (lenM2 h) h i) x
noncomputable def undM : AV := .tup .nil
noncomputable def muF (h : Hp) (i : Pt) (m : ML) (k v : AV) (r : MF) : R1 := MF.rec (motive := fun _ => R1) (.fail 88) (.v undM (setB h i (.map (snocM k v m)))) (fun j k' _ => sel (eqAVm k' k) (.v undM (setB h i (.map (setM k v m j)))) (.fail 88)) r
noncomputable def oMU (t : Nat) (m k v : Operand) (fr : Fr) (h : Hp) : R1 := mapT tt t fun ka _ => sel (keyOk ka (ev k fr)) (onMap (.fail 89) (fun i => mapAt (.fail 89) (fun es => muF h i es (ev k fr) (ev v fr) (fnd ka h (ev k fr) es 0)) h i) (ev m fr)) (.fail 89)
noncomputable def oMM (_ : Nat) (r : Option Operand) (_ : Fr) (h : Hp) : R1 := Option.rec (motive := fun _ => R1) (hpN h fun i => .v (.map i) (newH h (.map .nil))) (fun _ => .fail 90) r
end

section
variable {tt : TT} {P : Program} {o : Oper} {act : Act} {φ : PM} {fr : Fr} {h : Hp} {w : World}

/-- two values of a flat type are compared -/
theorem eqFlat_run (kw : WR φ h w) {t : Nat} {te : TE} (hte : TEok P t te) {a b : AV} {u v : Value} (ha : VR φ a u) (hb : VR φ b v) {r : Bool} (e : eqFlat te h a b = some r) : (Op.equal t u v).run P w = .ok r w := by
  unfold eqFlat at e
  have hne : te.cmp ≠ [] := by
    intro e2; rw [e2] at e; cases e
  obtain ⟨hfl, hgd⟩ := hte.cmp hne
  obtain ⟨d, hd, _, hag⟩ := hte.und
  have hisT : isAggT P t = te.isAgg := by simp [isAggT, hd, hag]
  replace e : sel te.isAgg (onAgg none (fun xs => onAgg none (eqAgg h te.cmp xs) b) a) (sel (isOne a) (sel (isOne b) (eqAgg h te.cmp (.cons a .nil) (.cons b .nil)) none) none) = some r := by
    revert e
    cases hc : te.cmp with
    | nil => exact fun e => absurd hc hne
    | cons c cs => exact fun e => e
  cases hA : te.isAgg with
  | true =>
    rw [hA] at e
    cases a <;> try (cases e; done)
    rename_i xs
    cases b <;> try (cases e; done)
    rename_i ys
    obtain ⟨us, rfl, hus⟩ := ha
    obtain ⟨vs, rfl, hvs⟩ := hb
    have hall := eqAgg_sound (P := P) kw hus hvs e
    have hrun := eq_run (w := w) 20 hfl 9980 _ _ r hall
    have e1 : ∀ l : Array Value, valT P t l.toList = .agg l := fun l => by simp [valT, hisT, hA]
    rw [e1, e1] at hrun
    exact hrun
  | false =>
    rw [hA] at e
    obtain ⟨o1, e2⟩ := sel_some_inv e
    obtain ⟨o2, e3⟩ := sel_some_inv e2
    have hall := eqAgg_sound (P := P) kw (VL.cons ha (VL.nil φ)) (VL.cons hb (VL.nil φ)) e3
    have hrun := eq_run (w := w) 20 hfl 9980 _ _ r hall
    have e1 : ∀ v : Value, valT P t [v] = v := fun v => by simp [valT, hisT, hA]
    rw [e1, e1] at hrun
    exact hrun
/-- a key of a flat type may stand -/
theorem keyOk_run {t : Nat} {te : TE} (hte : TEok P t te) {a : AV} {u : Value} (ha : VR φ a u) (e : keyOk te a = true) (em : Bool) : (Instr.checkKey em 10000 t u).run P w = .ok () w := by
  have hne : te.cmp ≠ [] := by
    intro e2; unfold keyOk at e; rw [e2] at e; cases e
  obtain ⟨hfl, _⟩ := hte.cmp hne
  obtain ⟨d, hd, _, hag⟩ := hte.und
  obtain ⟨i, z, hi, hsz, _⟩ := hte.info
  have hisT : isAggT P t = te.isAgg := by simp [isAggT, hd, hag]
  have hlen : te.cmp.length = te.size := by rw [flatK_len 20 hfl]; simp [Program.cellsOf, hi, hsz]
  replace e : sel te.isAgg (onAgg false (fun cs => Nat.beq (lenL cs) te.size) a) (isOne a) = true := by
    revert e
    unfold keyOk
    cases hc : te.cmp with
    | nil => exact fun e => absurd hc hne
    | cons c cs => exact fun e => e
  cases hA : te.isAgg with
  | true =>
    rw [hA] at e
    cases a <;> try (cases e; done)
    rename_i cs
    obtain ⟨us, rfl, hus⟩ := ha
    have hl : us.toList.length = te.size := by rw [← (show VL φ cs us.toList from hus).len]; exact Nat.eq_of_beq_eq_true e
    have := checkKey_flat (P := P) (w := w) em 20 hfl 9980 us.toList (by rw [hl, hlen])
    rwa [show valT P t us.toList = .agg us by simp [valT, hisT, hA]] at this
  | false =>
    rw [hA] at e
    have h1 : te.cmp.length = 1 := by
      unfold flatK at hfl
      rw [hd] at hfl
      cases d <;> simp [aggD, hA] at hag <;> (simp only at hfl; split at hfl <;> first | (cases hfl; done) | (split at hfl <;> first | (cases hfl; done) | (rw [← Option.some.inj hfl]; rfl)))
    have := checkKey_flat (P := P) (w := w) em 20 hfl 9980 [u] (by rw [h1]; rfl)
    rwa [show valT P t [u] = u by simp [valT, hisT, hA]] at this

theorem fnd_sound (kw : WR φ h w) {t : Nat} {te : TE} (hte : TEok P t te) {k : AV} {u : Value} (hk : VR φ k u) : ∀ (m : ML) (l : List MapEntry) (n i : Nat), ER φ m l n →
    (fnd te h k m i = .none → FindsTo P w t u l i none) ∧ (∀ j k' v, fnd te h k m i = .at j k' v → ∃ q e, j = i + q ∧ l[q]? = some e ∧ VR φ k' e.key ∧ VR φ v e.val ∧ FindsTo P w t u l i (some (j, e.val))) := by
  intro m
  induction m with
  | nil =>
    intro l n i he
    cases l with
    | nil => exact ⟨fun _ => rfl, fun j k' v h => by cases h⟩
    | cons e l => simp [ER] at he
  | c k1 v1 m ih =>
    intro l n i he
    cases l with
    | nil => simp [ER] at he
    | cons e l =>
      obtain ⟨h1, h2, h3, h4⟩ := he
      have hf : fnd te h k (.c k1 v1 m) i = Option.rec (motive := fun _ => MF) .fail (fun b => sel b (.at i k1 v1) (fnd te h k m (i + 1))) (eqFlat te h k k1) := rfl
      rw [hf]
      cases hq : eqFlat te h k k1 with
      | none => exact ⟨fun h => (by cases h), fun j k' v h => (by cases h)⟩
      | some b =>
        have hrun := eqFlat_run (w := w) kw hte hk h1 hq
        cases b with
        | true =>
          refine ⟨fun h => (by cases h), fun j k' v h => ?_⟩
          cases h
          exact ⟨0, e, rfl, rfl, h1, h2, .inl ⟨hrun, rfl⟩⟩
        | false =>
          obtain ⟨i1, i2⟩ := ih l (n + 1) (i + 1) h4
          refine ⟨fun h => .inr ⟨hrun, i1 h⟩, fun j k' v h => ?_⟩
          obtain ⟨q, e', hj, hl, hk', hv', hfd⟩ := i2 j k' v h
          exact ⟨q + 1, e', by omega, by simpa using hl, hk', hv', .inr ⟨hrun, hfd⟩⟩

theorem mapT_elim (ht : TTok P tt) {C : R1 → Prop} {t : Nat} {k : TE → TE → R1} (hd : ∀ n, C (.fail n)) (hk : ∀ a b ka eb, P.underlying t = some (.map a b) → TEok P a ka → TEok P b eb → C (k ka eb)) : C (mapT tt t k) := by
  unfold mapT
  refine ob_elim (hd _) fun te hte => ?_
  obtain ⟨d, hd', hti, _⟩ := (ht t te hte).und
  cases hc : te.ti <;> first | exact hd _ | skip
  rename_i a b
  rw [hc] at hti
  show C (ob (ty tt a) fun ka => ob (ty tt b) fun eb => k ka eb)
  refine ob_elim (hd _) fun ka hka => ob_elim (hd _) fun eb heb => ?_
  cases d <;> simp [TIok] at hti
  obtain ⟨rfl, rfl⟩ := hti
  exact hk a b ka eb hd' (ht _ ka hka) (ht _ eb heb)
theorem mapAt_elim (kw : WR φ h w) {C : R1 → Prop} {k : ML → R1} {i : Pt} {p : PB} (hp : φ i = some p) (hd : ∀ n, C (.fail n)) (hk : ∀ m l clock, getP i h.t = some (.map m) → w.heap[p.blk]? = some (.map l clock) → ER φ m l.toList 0 → clock = l.size → C (k m)) {n : Nat} : C (mapAt (.fail n) k h i) := by
  unfold mapAt
  cases hg : getP i h.t with
  | none => exact hd _
  | some ob =>
    cases ob with
    | cells => exact hd _
    | siter => exact hd _
    | mapU => exact hd _
    | miter => exact hd _
    | map m =>
      obtain ⟨q, hq, l, clock, h1, h2, h3⟩ := kw.obj _ _ hg
      rw [hp] at hq; cases hq
      exact hk m l clock hg h1 h2 h3

theorem map2_elim (kw : WR φ h w) {C : R1 → Prop} {k u : ML → R1} {i : Pt} {p : PB} (hp : φ i = some p) (hd : ∀ n, C (.fail n)) (hk : ∀ m l clock, getP i h.t = some (.map m) → w.heap[p.blk]? = some (.map l clock) → ER φ m l.toList 0 → clock = l.size → C (k m))
    (hu : ∀ m es l clock, w.heap[p.blk]? = some (.map l clock) → (mlL es).Perm (mlL m) → ER φ es l.toList 0 → C (u m)) {n : Nat} : C (map2 (.fail n) k u h i) := by
  unfold map2
  cases hg : getP i h.t with
  | none => exact hd _
  | some ob =>
    cases ob with
    | cells => exact hd _
    | siter => exact hd _
    | miter => exact hd _
    | map m =>
      obtain ⟨q, hq, l, clock, h1, h2, h3⟩ := kw.obj _ _ hg
      rw [hp] at hq; cases hq
      exact hk m l clock hg h1 h2 h3
    | mapU m =>
      obtain ⟨q, hq, l, clock, es, h1, h2, h3, _⟩ := kw.obj _ _ hg
      rw [hp] at hq; cases hq
      exact hu m es l clock h1 h2 h3
theorem fnd_none {te : TE} {k : AV} : ∀ (m : ML) (i : Nat), (∀ p ∈ mlL m, eqFlat te h k p.1 = some false) → fnd te h k m i = .none
  | .nil, _, _ => rfl
  | .c k' v m, i, hall => by
    show Option.rec (motive := fun _ => MF) .fail (fun b => sel b (.at i k' v) (fnd te h k m (i + 1))) (eqFlat te h k k') = _
    rw [hall (k', v) (List.mem_cons_self ..)]
    exact fnd_none m (i + 1) fun p hp => hall p (List.mem_cons_of_mem _ hp)
theorem fnd_at {te : TE} {k v0 : AV} : ∀ (m : ML) (i : Nat), (∀ p ∈ mlL m, eqFlat te h k p.1 = some false ∨ eqFlat te h k p.1 = some true ∧ p.2 = v0) → (∃ p ∈ mlL m, eqFlat te h k p.1 = some true) → ∃ j k', fnd te h k m i = .at j k' v0
  | .nil, _, _, ⟨p, hp, _⟩ => by cases hp
  | .c k' v m, i, hall, ⟨p, hp, hpt⟩ => by
    show ∃ j k2, Option.rec (motive := fun _ => MF) .fail (fun b => sel b (.at i k' v) (fnd te h k m (i + 1))) (eqFlat te h k k') = _
    rcases hall (k', v) (List.mem_cons_self ..) with h1 | ⟨h1, h2⟩
    · rw [h1]
      refine fnd_at m (i + 1) (fun p hp => hall p (List.mem_cons_of_mem _ hp)) ?_
      rcases List.mem_cons.1 hp with rfl | hp
      · rw [h1] at hpt; cases hpt
      · exact ⟨p, hp, hpt⟩
    · rw [h1]
      exact ⟨i, k', by rw [← h2]; rfl⟩
theorem fndU_spec {te : TE} {k : AV} : ∀ (m : ML), (fndU te h k m = .none → ∀ p ∈ mlL m, eqFlat te h k p.1 = some false) ∧
    (∀ j k0 v0, fndU te h k m = .at j k0 v0 → (∀ p ∈ mlL m, eqFlat te h k p.1 = some false ∨ eqFlat te h k p.1 = some true ∧ p.2 = v0) ∧ ∃ p ∈ mlL m, eqFlat te h k p.1 = some true)
  | .nil => ⟨fun _ p hp => (by cases hp), fun j k0 v0 e => (by cases e)⟩
  | .c k' v m => by
    obtain ⟨i1, i2⟩ := fndU_spec m
    have hf : fndU te h k (.c k' v m) = Option.rec (motive := fun _ => MF) .fail (fun b => sel b (MF.rec (motive := fun _ => MF) .fail (.at 0 k' v) (fun _ _ v2 => sel (eqAVm v2 v) (.at 0 k' v) .fail) (fndU te h k m)) (fndU te h k m)) (eqFlat te h k k') := rfl
    rw [hf]
    cases hq : eqFlat te h k k' with
    | none => exact ⟨fun e => (by cases e), fun j k0 v0 e => (by cases e)⟩
    | some b =>
      cases b with
      | false =>
        refine ⟨fun e p hp => ?_, fun j k0 v0 e => ?_⟩
        · rcases List.mem_cons.1 hp with rfl | hp
          · exact hq
          · exact i1 e p hp
        · obtain ⟨h1, p, hp, h2⟩ := i2 j k0 v0 e
          refine ⟨fun p hp => ?_, p, List.mem_cons_of_mem _ hp, h2⟩
          rcases List.mem_cons.1 hp with rfl | hp
          · exact .inl hq
          · exact h1 p hp
      | true =>
        show (MF.rec (motive := fun _ => MF) .fail (.at 0 k' v) (fun _ _ v2 => sel (eqAVm v2 v) (.at 0 k' v) .fail) (fndU te h k m) = .none → _) ∧ (∀ j k0 v0, MF.rec (motive := fun _ => MF) .fail (.at 0 k' v) (fun _ _ v2 => sel (eqAVm v2 v) (.at 0 k' v) .fail) (fndU te h k m) = .at j k0 v0 → _)
        cases hr : fndU te h k m with
        | fail => exact ⟨fun e => (by cases e), fun j k0 v0 e => (by cases e)⟩
        | none =>
          refine ⟨fun e => (by cases e), fun j k0 v0 e => ?_⟩
          cases e
          refine ⟨fun p hp => ?_, (k', v), List.mem_cons_self .., hq⟩
          rcases List.mem_cons.1 hp with rfl | hp
          · exact .inr ⟨hq, rfl⟩
          · exact .inl (i1 hr p hp)
        | «at» j2 k2 v2 =>
          show (sel (eqAVm v2 v) (MF.at 0 k' v) .fail = .none → _) ∧ (∀ j k0 v0, sel (eqAVm v2 v) (MF.at 0 k' v) .fail = .at j k0 v0 → _)
          cases he : eqAVm v2 v with
          | false => exact ⟨fun e => (by cases e), fun j k0 v0 e => (by cases e)⟩
          | true =>
            obtain rfl : v2 = v := of_decide_eq_true he
            refine ⟨fun e => (by cases e), fun j k0 v0 e => ?_⟩
            cases e
            obtain ⟨h1, _⟩ := i2 _ _ _ hr
            refine ⟨fun p hp => ?_, (k', v2), List.mem_cons_self .., hq⟩
            rcases List.mem_cons.1 hp with rfl | hp
            · exact .inr ⟨hq, rfl⟩
            · exact h1 p hp
theorem ER_len {φ : PM} : ∀ {m : ML} {l : List MapEntry} {n : Nat}, ER φ m l n → lenM m = l.length
  | .nil, [], _, _ => rfl
  | .c _ _ m, _ :: l, n, ⟨_, _, _, h4⟩ => by show Nat.succ (lenM m) = _; rw [ER_len h4]; rfl
  | .c _ _ _, [], _, h => by simp [ER] at h
  | .nil, _ :: _, _, h => by simp [ER] at h
theorem lenM_mlL : ∀ m : ML, lenM m = (mlL m).length
  | .nil => rfl
  | .c _ _ m => by show Nat.succ (lenM m) = _; rw [lenM_mlL m]; rfl

def lkV (ok : Bool) (z : Value) (res : Option (Nat × Value)) : Value := match res with
  | some (_, v) => if ok then .tuple #[v, .bool true] else v
  | none => if ok then .tuple #[z, .bool false] else z
theorem lookup_run {t a b : Nat} {ix x z : Value} {es : Array MapEntry} {ok : Bool} {res : Option (Nat × Value)} (hu : P.underlying t = some (.map a b)) (hz : (zeroValue b).run P w = .ok z w)
    (hx : x = .map none ∧ es = #[] ∨ ∃ r clock, x = .map (some r) ∧ w.heap[r]? = some (.map es clock)) (hck : (Instr.checkKey es.isEmpty 10000 a ix).run P w = .ok () w) (hfk : (Instr.findKey a ix es.toList).run P w = .ok res w) :
    (Instr.lookup t x ix ok).run P w = .ok (lkV ok z res) w := by
  unfold Instr.lookup
  simp only [Sem.run_bind, run_underlying hu, Result.andThen_ok]
  rcases hx with ⟨rfl, rfl⟩ | ⟨r, clock, rfl, hb⟩
  · have hfk' : (Instr.findKey a ix []).run P w = .ok res w := hfk
    have hck' : (Instr.checkKey true 10000 a ix).run P w = .ok () w := hck
    cases res with
    | none => simp [hck', hfk', hz, lkV]
    | some q => simp [hck', hfk', lkV]
  · have hg : (getObj r).run P w = .ok (.map es clock) w := by simp [getObj, Sem.run, hb]
    cases res with
    | none => simp [hg, hck, hfk, hz, lkV]
    | some q => simp [hg, hck, hfk, lkV]

theorem lkRes_sound {ok : Bool} {x : Value} {t : Nat} {ix v : Value} {a : AV} {b : Bool} (hexec : execOp act.eval o = do pure (Next.value (← Instr.lookup t x ix ok))) (hv : VR φ a v)
    (hrun : (Instr.lookup t x ix ok).run P w = .ok (if ok then .tuple #[v, .bool b] else v) w) : SoundR P o act φ h w (lkRes ok h a b) := by
  unfold lkRes
  cases ok with
  | true => exact SoundR.value (v := .tuple #[v, .bool b]) (by rw [hexec]; exact run_value hrun) ⟨_, rfl, VL.cons hv (VL.cons rfl (VL.nil _))⟩
  | false => exact SoundR.value (v := v) (by rw [hexec]; exact run_value hrun) hv

theorem oLk_sound (ht : TTok P tt) (kf : FR φ fr act) (kw : WR φ h w) {t : Nat} {x ix : Operand} {ok : Bool} (ho : o.op = .lookup t x ix ok) : SoundR P o act φ h w (oLk tt t x ix ok fr h) := by
  have hx := ev_sound kf x
  have hix := ev_sound kf ix
  have hexec : execOp act.eval o = (do pure (Next.value (← Instr.lookup t (act.eval x) (act.eval ix) ok))) := by simp only [execOp, ho]
  unfold oLk
  refine mapT_elim ht (fun _ => trivial) fun a b ka eb hu hka heb => sel_elim (fun hko => ?_) fun _ => trivial
  obtain ⟨da, hda, _⟩ := hka.und
  obtain ⟨inf, z, hi, _, _, hz, hzv, _⟩ := heb.info
  have hzr : (zeroValue b).run P w = .ok z w := by simp [zeroValue, typeInfo, hi, hz]
  refine onMap_elim (onNilm_elim trivial fun e => ?_) fun i e => ?_
  · rw [e] at hx
    have hx : act.eval x = .map none := hx
    have := lookup_run (ok := ok) (res := none) hu hzr (.inl ⟨hx, rfl⟩) (keyOk_run hka hix hko true) (findKey_run hda (show FindsTo P w a (act.eval ix) [] 0 none from rfl))
    exact lkRes_sound hexec (hzv φ) (by rw [this]; cases ok <;> rfl)
  · rw [e] at hx
    obtain ⟨p, hp, hx⟩ := hx
    have main : ∀ m l clock, w.heap[p.blk]? = some (.map l clock) → ER φ m l.toList 0 → SoundR P o act φ h w (lkF eb ok h (fnd ka h (ev ix fr) m 0)) := by
      intro m l clock hb her
      obtain ⟨f1, f2⟩ := fnd_sound kw hka hix m l.toList 0 0 her
      cases hr : fnd ka h (ev ix fr) m 0 with
      | fail => trivial
      | none =>
        have := lookup_run (ok := ok) (res := none) hu hzr (.inr ⟨p.blk, clock, hx, hb⟩) (keyOk_run hka hix hko _) (findKey_run hda (f1 hr))
        exact lkRes_sound hexec (hzv φ) (by rw [this]; cases ok <;> rfl)
      | «at» j k' v =>
        obtain ⟨q, e', _, _, _, hv', hfd⟩ := f2 j k' v hr
        have := lookup_run (ok := ok) hu hzr (.inr ⟨p.blk, clock, hx, hb⟩) (keyOk_run hka hix hko _) (findKey_run hda hfd)
        exact lkRes_sound hexec hv' (by rw [this]; cases ok <;> rfl)
    refine map2_elim (C := fun r => SoundR P o act φ h w r) kw hp (fun _ => trivial) (fun m l clock _ hb her _ => main m l clock hb her) fun m es l clock hb hperm her => ?_
    have hmain := main es l clock hb her
    obtain ⟨u1, u2⟩ := fndU_spec (h := h) (te := ka) (k := ev ix fr) m
    cases hr : fndU ka h (ev ix fr) m with
    | fail => trivial
    | none =>
      rw [fnd_none es 0 fun p hp => u1 hr p (hperm.mem_iff.1 hp)] at hmain
      exact hmain
    | «at» j k' v =>
      obtain ⟨h1, p1, hp1, h2⟩ := u2 j k' v hr
      obtain ⟨j2, k2, hf⟩ := fnd_at (h := h) (te := ka) (k := ev ix fr) es 0 (fun p hp => h1 p (hperm.mem_iff.1 hp)) ⟨p1, hperm.mem_iff.2 hp1, h2⟩
      rw [hf] at hmain
      exact hmain

theorem oMM_sound (kw : WR φ h w) {t : Nat} {r : Option Operand} (ho : o.op = .makeMap t r) : Sound1 P o act φ h w (oMM t r fr h) := by
  cases r with
  | some x => trivial
  | none =>
    show Sound1 P o act φ h w (.v (.map h.n) (newH h (.map .nil)))
    have hst : Stp φ h w (φ.set h.n ⟨w.heap.size, 0, 0⟩) (newH h (.map .nil)) { w with heap := w.heap.push (.map #[] 0) } :=
      kw.alloc (.map #[] 0) (.map .nil) 0 ⟨#[], 0, by simp, trivial, rfl⟩
    refine ⟨.value (.map (some w.heap.size)), .map (some w.heap.size), _, _, ?_, .inl rfl, ⟨_, PM.set_same _ _ _, rfl⟩, hst⟩
    simp only [execOp, ho]
    exact run_value (by simp [Instr.makeMap, newObj, Sem.run])

theorem ER_snoc : ∀ {m : ML} {l : List MapEntry} {n : Nat} {k v : AV} {e : MapEntry}, ER φ m l n → VR φ k e.key → VR φ v e.val → e.born = n + l.length → ER φ (snocM k v m) (l ++ [e]) n
  | .nil, [], n, k, v, e, _, hk, hv, hb => ⟨hk, hv, by simpa using hb, trivial⟩
  | .c _ _ m, e' :: l, n, k, v, e, ⟨h1, h2, h3, h4⟩, hk, hv, hb => ⟨h1, h2, h3, ER_snoc h4 hk hv (by simp at hb; omega)⟩
  | .nil, _ :: _, _, _, _, _, h, _, _, _ => by simp [ER] at h
  | .c _ _ _, [], _, _, _, _, h, _, _, _ => by simp [ER] at h
theorem ER_set : ∀ {m : ML} {l : List MapEntry} {n j : Nat} {k v : AV} {f : MapEntry → MapEntry}, ER φ m l n → (∀ e, l[j]? = some e → VR φ k (f e).key ∧ VR φ v (f e).val ∧ (f e).born = e.born) → ER φ (setM k v m j) (l.modify j f) n
  | .nil, [], n, j, k, v, f, _, _ => by simp [setM, ER]
  | .c k1 v1 m, e :: l, n, 0, k, v, f, ⟨h1, h2, h3, h4⟩, hf => by
    obtain ⟨f1, f2, f3⟩ := hf e rfl
    exact ⟨f1, f2, f3.trans h3, h4⟩
  | .c k1 v1 m, e :: l, n, j + 1, k, v, f, ⟨h1, h2, h3, h4⟩, hf => ⟨h1, h2, h3, ER_set h4 fun e' he => hf e' (by simpa using he)⟩
  | .nil, _ :: _, _, _, _, _, _, h, _ => by simp [ER] at h
  | .c _ _ _, [], _, _, _, _, _, h, _ => by simp [ER] at h

theorem oMU_sound (ht : TTok P tt) (kf : FR φ fr act) (kw : WR φ h w) {t : Nat} {m k v : Operand} (ho : o.op = .mapUpdate t m k v) : Sound1 P o act φ h w (oMU tt t m k v fr h) := by
  have hm := ev_sound kf m
  have hk := ev_sound kf k
  have hv := ev_sound kf v
  have hexec : execOp act.eval o = (do Instr.mapUpdate t (act.eval m) (act.eval k) (act.eval v); pure Next.skip) := by simp only [execOp, ho]
  unfold oMU
  refine mapT_elim ht (fun _ => trivial) fun a b ka eb hu hka heb => sel_elim (fun hko => ?_) fun _ => trivial
  obtain ⟨da, hda, _⟩ := hka.und
  refine onMap_elim trivial fun i e => ?_
  rw [e] at hm
  obtain ⟨p, hp, hm⟩ := hm
  refine mapAt_elim (C := fun r => Sound1 P o act φ h w r) kw hp (fun _ => trivial) fun ml l clock hg hb her hcl => ?_
  obtain ⟨f1, f2⟩ := fnd_sound kw hka hk ml l.toList 0 0 her
  have hlt : p.blk < w.heap.size := (show OR φ p w (.map ml) from ⟨l, clock, hb, her, hcl⟩).lt
  have hget : (getObj p.blk).run P w = .ok (.map l clock) w := by simp [getObj, Sem.run, hb]
  have hset : ∀ (x : Obj) (w1 : World), w1.heap = w.heap → (setObj p.blk x).run P w1 = .ok () { w1 with heap := w1.heap.setIfInBounds p.blk x } := fun x w1 hh => by simp [setObj, Sem.run, hh, hb]
  have hck := keyOk_run (w := w) hka hk hko false
  have but : ∀ (x : Obj) (w1 : World), w1.heap = w.heap → w1.os = w.os → w1.tape = w.tape → w1.output = w.output → But p.blk w { w1 with heap := w1.heap.setIfInBounds p.blk x } := fun x w1 h1 h2 h3 h4 =>
    ⟨h2, h3, h4, by simp [h1], fun q hq hn => by
      show (w1.heap.setIfInBounds p.blk x)[q]? = _
      rw [Array.getElem?_setIfInBounds_ne (fun e => hn e.symm), h1]⟩
  have undv : VR φ undM undef := ⟨#[], rfl, VL.nil _⟩
  cases hr : fnd ka h (ev k fr) ml 0 with
  | fail => trivial
  | none =>
    show Sound1 P o act φ h w (.v undM (setB h i (.map (snocM (ev k fr) (ev v fr) ml))))
    have hfk := findKey_run hda (f1 hr)
    refine ⟨.skip, undef, { w with heap := w.heap.setIfInBounds p.blk (.map (l.push { key := act.eval k, val := act.eval v, born := clock }) (clock + 1)) }, φ, ?_, .inr ⟨rfl, rfl⟩, undv, ?_⟩
    · rw [hexec]
      refine run_unit ?_
      unfold Instr.mapUpdate
      simp [run_underlying hu, hm, hget, hck, hfk, hset _ w rfl]
    · refine kw.modify ⟨_, hg, rfl⟩ hp (but _ w rfl rfl rfl rfl) ⟨l.push { key := act.eval k, val := act.eval v, born := clock }, clock + 1, ?_, ?_, ?_⟩
      · show (w.heap.setIfInBounds p.blk _)[p.blk]? = _
        rw [Array.getElem?_setIfInBounds_self_of_lt hlt]
      · rw [Array.toList_push]
        exact ER_snoc her hk hv (by simp [hcl])
      · simp [hcl]
  | «at» j k' v' =>
    show Sound1 P o act φ h w (sel (eqAVm k' (ev k fr)) (.v undM (setB h i (.map (setM (ev k fr) (ev v fr) ml j)))) (.fail 88))
    refine sel_elim (fun heq => ?_) fun _ => trivial
    have heq : k' = ev k fr := of_decide_eq_true heq
    subst heq
    obtain ⟨q, e', hj, hl, hk', _, hfd⟩ := f2 j _ v' hr
    obtain rfl : j = q := by omega
    have hfk := findKey_run hda hfd
    have hle : l[j]? = some e' := by rw [← Array.getElem?_toList]; exact hl
    -- whichever key stays
    obtain ⟨key, w1, hstay, h1, h2, h3, h4, hkey⟩ : ∃ key w1, (Instr.keyThatStays e'.key (act.eval k)).run P w = .ok key w1 ∧ w1.heap = w.heap ∧ w1.os = w.os ∧ w1.tape = w.tape ∧ w1.output = w.output ∧ VR φ (ev k fr) key := by
      unfold Instr.keyThatStays
      cases hs : Instr.sameBits 10000 e'.key (act.eval k) with
      | true => exact ⟨_, w, by simp, rfl, rfl, rfl, rfl, hk⟩
      | false =>
        simp only [Bool.false_eq_true, if_false, Sem.run_bind]
        obtain ⟨c, w1, hc, h1, h2, h3, h4⟩ : ∃ c w1, (choose (.extern "map.whichKeyStays" 2)).run P w = .ok c w1 ∧ w1.heap = w.heap ∧ w1.os = w.os ∧ w1.tape = w.tape ∧ w1.output = w.output := by
          rw [run_choose_drew]
          split
          · exact ⟨_, w, rfl, rfl, rfl, rfl, rfl⟩
          · exact ⟨_, w.drew, rfl, rfl, rfl, rfl, rfl⟩
        rw [hc]
        simp only [Result.andThen_ok]
        refine ⟨_, w1, rfl, h1, h2, h3, h4, ?_⟩
        split
        · exact hk
        · exact hk'
    refine ⟨.skip, undef, { w1 with heap := w1.heap.setIfInBounds p.blk (.map (l.modify j fun e => { e with key := key, val := act.eval v }) clock) }, φ, ?_, .inr ⟨rfl, rfl⟩, undv, ?_⟩
    · rw [hexec]
      refine run_unit ?_
      unfold Instr.mapUpdate
      simp [run_underlying hu, hm, hget, hck, hfk, hle, hstay, hset _ w1 h1]
    · refine kw.modify ⟨_, hg, rfl⟩ hp (but _ w1 h1 h2 h3 h4) ⟨l.modify j fun e => { e with key := key, val := act.eval v }, clock, ?_, ?_, ?_⟩
      · show (w1.heap.setIfInBounds p.blk _)[p.blk]? = _
        rw [h1, Array.getElem?_setIfInBounds_self_of_lt hlt]
      · rw [Array.toList_modify]
        exact ER_set her fun e _ => ⟨hkey, hv, rfl⟩
      · simp [hcl]
end

/-! ### lengths of maps; ranges over maps -/
section
variable (tt : TT)
noncomputable def oRangeM (t : Nat) (x : Operand) (fr : Fr) (h : Hp) : R1 := onMap (oRange tt t x fr h) (fun i => mapT tt t fun _ _ => mapAt (.fail 46) (fun m => hpN h fun j => .v (.ptr j 0) (newH h (.miter i (lenM m) .nil))) h i) (ev x fr)
noncomputable def inSeen (j : Nat) (l : List Nat) : Bool := List.rec (motive := fun _ => Bool) false (fun a _ ih => sel (Nat.beq a j) true ih) l
noncomputable def snocN (l : List Nat) (j : Nat) : List Nat := List.rec (motive := fun _ => List Nat) (.cons j .nil) (fun a _ ih => .cons a ih) l
noncomputable def orO (x : R1) (y : Option R1) : Option R1 := Option.rec (motive := fun _ => Option R1) (some x) (fun y => some (.or x y)) y
noncomputable def nxt1 (h : Hp) (i m : Pt) (n : Nat) (seen : List Nat) (k v : AV) (j : Nat) : R1 := .v (l3 (.bool true) k v) (setB h i (.miter m n (snocN seen j)))
noncomputable def nxtM (h : Hp) (i m : Pt) (n : Nat) (seen : List Nat) (es : ML) : Nat → Option R1 := ML.rec (motive := fun _ => Nat → Option R1) (fun _ => none) (fun k v _ ih j => sel (inSeen j seen) (ih (Nat.succ j)) (orO (nxt1 h i m n seen k v j) (ih (Nat.succ j)))) es
noncomputable def nxtE (h : Hp) (y : Option R1) : R1 := Option.rec (motive := fun _ => R1) (.v (.tup (.cons (.bool false) .nil)) h) (fun r => r) y
noncomputable def hoI {β : Type} (d : β) (k : Pt → Nat → List Nat → β) (o : HO) : β := HO.rec (motive := fun _ => β) (fun _ _ _ _ => d) (fun _ _ _ => d) (fun _ => d) (fun _ => d) k o
noncomputable def nextM (h : Hp) (i : Pt) (o : HO) : R1 := hoI (.fail 47) (fun m n seen => mapAt (.fail 47) (fun es => sel (Nat.beq (lenM es) n) (nxtE h (nxtM h i m n seen es 0)) (.fail 47)) h m) o
noncomputable def lastN (l : List Nat) : Option Nat := List.rec (motive := fun _ => Option Nat) none (fun a _ ih => some (Option.rec (motive := fun _ => Nat) a (fun b => b) ih)) l
noncomputable def entM (h : Hp) (es : ML) : Nat → R1 := ML.rec (motive := fun _ => Nat → R1) (fun _ => .fail 48) (fun k v _ ih j => Nat.rec (motive := fun _ => R1) (.v (.tup (.cons k (.cons v .nil))) h) (fun i _ => ih i) j) es
noncomputable def entH (h : Hp) (o : HO) : R1 := hoI (.fail 48) (fun m n seen => ob (lastN seen) fun j => mapAt (.fail 48) (fun es => sel (Nat.beq (lenM es) n) (entM h es j) (.fail 48)) h m) o
noncomputable def oEntry (it : Operand) (fr : Fr) (h : Hp) : R1 := onPtr (.fail 48) (fun i o => sel (Nat.beq o 0) (ob (getP i h.t) (entH h)) (.fail 48)) (ev it fr)
noncomputable def oNextM (it : Operand) (s : Bool) (fr : Fr) (h : Hp) : R1 := sel s (oNext it s fr h) (onPtr (.fail 47) (fun i o => sel (Nat.beq o 0) (ob (getP i h.t) (nextM h i)) (.fail 47)) (ev it fr))
end

section
variable {tt : TT} {P : Program} {o : Oper} {act : Act} {φ : PM} {fr : Fr} {h : Hp} {w : World}
theorem lenX_sound (ht : TTok P tt) (kw : WR φ h w) {t : Nat} {x : AV} {v : Value} (hx : VR φ x v) {ts : Array TypeId} (h0 : ts[0]? = some t) (ty : TypeId) : SoundV P (Builtin.len_ ts ty #[v]) φ h w (lenX tt t x h) := by
  unfold lenX
  refine onMap_elim ?_ fun i e => ?_
  · exact lenV_run (C := fun r => SoundV P _ φ h w r) ht hx (fun _ => trivial) fun n hrun => SoundV.mk (hrun ts h0 w) rfl (Stp.refl kw)
  · subst e
    obtain ⟨p, hp, rfl⟩ := hx
    refine mapT_elim ht (fun _ => trivial) fun a b ka eb hu _ _ => ?_
    have fin : ∀ (n : Nat) (l : Array MapEntry) (clock : Nat), w.heap[p.blk]? = some (.map l clock) → n = l.size → SoundV P (Builtin.len_ ts ty #[.map (some p.blk)]) φ h w (.v (natV n) h) := by
      intro n l clock hb hn
      refine SoundV.mk (v := .int .i64 n) (w' := w) ?_ rfl (Stp.refl kw)
      have hg : (getObj p.blk).run P w = .ok (.map l clock) w := by simp [getObj, Sem.run, hb]
      simp [Builtin.len_, h0, run_underlying hu, hg, goInt, hn]
    refine map2_elim (C := fun r => SoundV P _ φ h w r) kw hp (fun _ => trivial) (fun m l clock _ hb her _ => fin _ l clock hb ?_) fun m es l clock hb hperm her => fin _ l clock hb ?_
    · rw [ER_len her]; simp
    · rw [lenM_mlL, ← hperm.length_eq, ← lenM_mlL, ER_len her]; simp
theorem oRangeM_sound (ht : TTok P tt) (kf : FR φ fr act) (kw : WR φ h w) {t : Nat} {x : Operand} (ho : o.op = .range t x) : Sound1 P o act φ h w (oRangeM tt t x fr h) := by
  have hx := ev_sound kf x
  unfold oRangeM
  refine onMap_elim (oRange_sound ht kf kw ho) fun i e => mapT_elim ht (fun _ => trivial) fun a b ka eb hu _ _ => ?_
  rw [e] at hx
  obtain ⟨p, hp, hx⟩ := hx
  refine mapAt_elim (C := fun r => Sound1 P o act φ h w r) kw hp (fun _ => trivial) fun m l clock hg hb her hcl => ?_
  refine SoundV.sound (s := Instr.range t (act.eval x)) ?_ (by simp only [execOp, ho])
  have hle : φ.le (φ.set h.n ⟨w.heap.size, 0, 0⟩) := PM.le_set _ (kw.fresh _ (Nat.le_refl _)).2
  have hn : lenM m = clock := by rw [ER_len her, hcl]; simp
  refine SoundV.mk (v := .pointer (some ⟨w.heap.size, 0, none⟩)) (w' := { w with heap := w.heap.push (.mapIter (some p.blk) clock #[] clock) }) ?_ ⟨⟨w.heap.size, 0, 0⟩, PM.set_same _ _ _, rfl⟩ (kw.alloc (.mapIter (some p.blk) clock #[] clock) (.miter i (lenM m) .nil) 0 ⟨p, hle _ _ hp, by rw [hn]; exact Array.getElem?_push_size, rfl⟩)
  have hg : (getObj p.blk).run P w = .ok (.map l clock) w := by simp [getObj, Sem.run, hb]
  simp [Instr.range, hx, run_underlying hu, hg]

theorem inSeen_iff {j : Nat} : ∀ {l : List Nat}, inSeen j l = true ↔ j ∈ l
  | [] => ⟨fun h => (by cases h), fun h => (by cases h)⟩
  | a :: l => by
    show sel (Nat.beq a j) true (inSeen j l) = true ↔ _
    cases hb : Nat.beq a j with
    | true => rw [Nat.eq_of_beq_eq_true hb]; simp
    | false =>
      have := beq_ne hb
      show inSeen j l = true ↔ _
      rw [inSeen_iff, List.mem_cons]
      exact ⟨.inr, fun h => h.resolve_left fun e => this e.symm⟩
theorem snocN_eq (l : List Nat) (j : Nat) : snocN l j = l ++ [j] := by
  induction l with
  | nil => rfl
  | cons a l ih => show a :: snocN l j = _; rw [ih]; rfl
theorem orO_some (x : R1) (y : Option R1) : ∃ r, orO x y = some r ∧ (∀ S : R1 → Prop, (∀ a b, S a → S (.or a b)) → S x → S r) ∧ ∀ z, y = some z → ∀ S : R1 → Prop, (∀ a b, S b → S (.or a b)) → S z → S r := by
  cases y with
  | none => exact ⟨x, rfl, fun S _ h => h, fun z e => by cases e⟩
  | some y => exact ⟨.or x y, rfl, fun S h1 h => h1 _ _ h, fun z e S h1 h => by cases e; exact h1 _ _ h⟩
theorem nxtM_none {i m : Pt} {n : Nat} {seen : List Nat} : ∀ {es : ML} {l : List MapEntry} {j : Nat}, ER φ es l j → (∀ e ∈ l, e.born ∈ seen) → nxtM h i m n seen es j = none
  | .nil, _, _, _, _ => rfl
  | .c k v es, [], _, h, _ => by simp [ER] at h
  | .c k v es, e :: l, j, ⟨_, _, h3, h4⟩, hall => by
    show sel (inSeen j seen) (nxtM h i m n seen es (j + 1)) (orO (nxt1 h i m n seen k v j) (nxtM h i m n seen es (j + 1))) = none
    rw [inSeen_iff.2 (h3 ▸ hall e (List.mem_cons_self ..))]
    exact nxtM_none h4 fun e he => hall e (List.mem_cons_of_mem _ he)
theorem nxtM_some {i m : Pt} {n : Nat} {seen : List Nat} : ∀ {es : ML} {l : List MapEntry} {j : Nat}, ER φ es l j → ∀ e ∈ l, e.born ∉ seen → ∃ k v r, VR φ k e.key ∧ VR φ v e.val ∧ nxtM h i m n seen es j = some r ∧
    ∀ S : R1 → Prop, (∀ a b, S a → S (.or a b)) → (∀ a b, S b → S (.or a b)) → S (nxt1 h i m n seen k v e.born) → S r
  | .nil, [], _, _, e, he, _ => by cases he
  | .nil, _ :: _, _, h, _, _, _ => by simp [ER] at h
  | .c k v es, [], _, h, _, _, _ => by simp [ER] at h
  | .c k v es, e0 :: l, j, ⟨h1, h2, h3, h4⟩, e, he, hns => by
    have hdef : nxtM h i m n seen (.c k v es) j = sel (inSeen j seen) (nxtM h i m n seen es (j + 1)) (orO (nxt1 h i m n seen k v j) (nxtM h i m n seen es (j + 1))) := rfl
    rw [hdef]
    rcases List.mem_cons.1 he with rfl | he
    · rw [h3] at hns ⊢
      have hb : inSeen j seen = false := by
        cases hb : inSeen j seen with
        | false => rfl
        | true => exact absurd (inSeen_iff.1 hb) hns
      rw [hb]
      obtain ⟨r, hr, hS, _⟩ := orO_some (nxt1 h i m n seen k v j) (nxtM h i m n seen es (j + 1))
      exact ⟨k, v, r, h1, h2, hr, fun S s1 s2 hx => hS S s1 hx⟩
    · obtain ⟨k', v', r', g1, g2, g3, g4⟩ := nxtM_some h4 e he hns
      cases hb : inSeen j seen with
      | true => exact ⟨k', v', r', g1, g2, g3, g4⟩
      | false =>
        obtain ⟨r, hr, _, hS⟩ := orO_some (nxt1 h i m n seen k v j) (nxtM h i m n seen es (j + 1))
        exact ⟨k', v', r, g1, g2, hr, fun S s1 s2 hx => hS r' g3 S s2 (g4 S s1 s2 hx)⟩
theorem ER_born : ∀ {m : ML} {l : List MapEntry} {n : Nat}, ER φ m l n → ∀ e ∈ l, e.born < n + l.length
  | .nil, [], _, _, e, he => by cases he
  | .nil, _ :: _, _, h, _, _ => by simp [ER] at h
  | .c _ _ _, [], _, h, _, _ => by simp [ER] at h
  | .c _ _ m, e0 :: l, n, ⟨_, _, h3, h4⟩, e, he => by
    rcases List.mem_cons.1 he with rfl | he
    · simp; omega
    · have := ER_born h4 e he; simp; omega

/-- the run of one step of a range over a map that has not grown -/
theorem next_run {r q n : Nat} {l : Array MapEntry} {seen : List Nat} (hr : w.heap[r]? = some (.mapIter (some q) n seen.toArray n)) (hq : w.heap[q]? = some (.map l n)) (hb : ∀ e ∈ l.toList, e.born < n) (ty : TypeId) :
    (∀ e ∈ l.toList, e.born ∈ seen) ∧ (∃ w1 : World, w1.heap = w.heap ∧ w1.os = w.os ∧ w1.tape = w.tape ∧ w1.output = w.output ∧ (Instr.next (.pointer (some ⟨r, 0, none⟩)) false ty).run P w = .ok (.tuple #[.bool false]) w1) ∨
    ∃ e ∈ l.toList, e.born ∉ seen ∧ ∃ w1 : World, w1.heap = w.heap ∧ w1.os = w.os ∧ w1.tape = w.tape ∧ w1.output = w.output ∧
      (Instr.next (.pointer (some ⟨r, 0, none⟩)) false ty).run P w = .ok (.tuple #[.bool true, e.key, e.val]) { w1 with heap := w1.heap.setIfInBounds r (.mapIter (some q) n (seen.toArray.push e.born) n) } := by
  have g1 : (getObj r).run P w = .ok (.mapIter (some q) n seen.toArray n) w := by simp [getObj, Sem.run, hr]
  have g2 : (getObj q).run P w = .ok (.map l n) w := by simp [getObj, Sem.run, hq]
  have hset : ∀ (x : Obj) (w1 : World), w1.heap = w.heap → (setObj r x).run P w1 = .ok () { w1 with heap := w1.heap.setIfInBounds r x } := fun x w1 hh => by simp [setObj, Sem.run, hh, hr]
  have hc1 : (!seen.toArray.isEmpty && !l.isEmpty && l.all (fun e => decide (e.born ≥ n))) = false := by
    cases hl : l.toList with
    | nil => have : l = #[] := by apply Array.ext'; simpa using hl
             simp [this]
    | cons e es =>
      have he := hb e (by rw [hl]; exact List.mem_cons_self ..)
      have : l.all (fun e => decide (e.born ≥ n)) = false := by
        rw [Bool.eq_false_iff]
        intro h
        have := Array.all_eq_true'.1 h e (by rw [← Array.mem_toList_iff, hl]; exact List.mem_cons_self ..)
        simp at this; omega
      simp [this]
  have hold : (l.filter fun e => !seen.toArray.contains e.born).filter (fun e => decide (e.born < n)) = l.filter fun e => !seen.toArray.contains e.born := by
    rw [Array.filter_filter]
    apply Array.ext'
    simp only [Array.toList_filter]
    apply List.filter_congr
    intro e he
    simp [hb e he]
  have hnew : (l.filter fun e => !seen.toArray.contains e.born).filter (fun e => decide (e.born ≥ n)) = #[] := by
    rw [Array.filter_filter]
    apply Array.ext'
    simp only [Array.toList_filter]
    rw [List.filter_eq_nil_iff]
    intro e he
    have := hb e he
    simp; omega
  obtain ⟨cand, hcand⟩ : ∃ cand, cand = (if (l.filter fun e => !seen.toArray.contains e.born).isEmpty then #[none] else #[]) ++ (l.filter fun e => !seen.toArray.contains e.born).map some := ⟨_, rfl⟩
  have hpos : 0 < cand.size := by
    rw [hcand]
    cases he : (l.filter fun e => !seen.toArray.contains e.born).isEmpty with
    | true => simp only [if_true, Array.size_append, List.size_toArray, List.length_cons, List.length_nil]; omega
    | false =>
      have : (l.filter fun e => !seen.toArray.contains e.born) ≠ #[] := fun h => by rw [h] at he; simp at he
      have := Array.size_pos_iff.2 this
      simp only [Bool.false_eq_true, if_false, Array.size_append, Array.size_map]; omega
  obtain ⟨t, w1, hch, htl, e1, e2, e3, e4⟩ : ∃ t w1, (choose (.mapNext cand.size)).run P w = .ok t w1 ∧ t < cand.size ∧ w1.heap = w.heap ∧ w1.os = w.os ∧ w1.tape = w.tape ∧ w1.output = w.output := by
    rw [run_choose_drew]
    split
    · exact ⟨_, w, rfl, hpos, rfl, rfl, rfl, rfl⟩
    · exact ⟨_, w.drew, rfl, Nat.mod_lt _ hpos, rfl, rfl, rfl, rfl⟩
  have hrun : (Instr.next (.pointer (some ⟨r, 0, none⟩)) false ty).run P w = (match cand[t]? with
      | some (some e) => (do setObj r (.mapIter (some q) n (seen.toArray.push e.born) n); pure (.tuple #[.bool true, e.key, e.val]) : Sem Value)
      | some none => pure (.tuple #[.bool false])
      | none => stuck "Next: no such candidate").run P w1 := by
    unfold Instr.next
    simp only [Sem.run_bind, g1, Result.andThen_ok, g2, hc1, Bool.false_eq_true, if_false, hold, hnew, Array.append_empty, ← hcand, hch]
    cases cand[t]? with
    | none => rfl
    | some c => cases c <;> rfl
  rw [hrun, Array.getElem?_eq_getElem htl]
  have hmem : cand[t] ∈ cand := Array.getElem_mem htl
  cases hc : cand[t] with
  | none =>
    left
    refine ⟨fun e he => ?_, w1, e1, e2, e3, e4, rfl⟩
    rw [hc, hcand] at hmem
    simp only [Array.mem_append, Array.mem_map] at hmem
    rcases hmem with hm | ⟨a, _, ha⟩
    · have hemp : (l.filter fun e => !seen.toArray.contains e.born).isEmpty = true := by
        cases hx : (l.filter fun e => !seen.toArray.contains e.born).isEmpty with
        | true => rfl
        | false => rw [hx] at hm; simp at hm
      have hnil : (l.filter fun e => !seen.toArray.contains e.born) = #[] := by simpa using hemp
      by_cases hs : e.born ∈ seen
      · exact hs
      · have : e ∈ (l.filter fun e => !seen.toArray.contains e.born) := by
          rw [Array.mem_filter]
          exact ⟨Array.mem_toList_iff.1 he, by simpa using hs⟩
        rw [hnil] at this; simp at this
    · cases ha
  | some e =>
    right
    rw [hc, hcand] at hmem
    simp only [Array.mem_append, Array.mem_map] at hmem
    rcases hmem with hm | ⟨a, ha, hae⟩
    · split at hm <;> simp at hm
    · cases hae
      rw [Array.mem_filter] at ha
      refine ⟨e, Array.mem_toList_iff.2 ha.1, by simpa using ha.2, w1, e1, e2, e3, e4, ?_⟩
      simp [hset _ w1 e1]

theorem oNextM_sound (kf : FR φ fr act) (kw : WR φ h w) {it : Operand} {s : Bool} (ho : o.op = .next it s) : Sound1 P o act φ h w (oNextM it s fr h) := by
  have hx := ev_sound kf it
  unfold oNextM
  refine sel_elim (fun hs => oNext_sound kf kw ho) fun hs => onPtr_elim trivial fun i off e => sel_elim (fun h0 => ob_elim trivial fun x g => ?_) fun _ => trivial
  subst hs
  obtain rfl := Nat.eq_of_beq_eq_true h0
  rw [e] at hx
  obtain ⟨p, hp, hx⟩ := hx
  cases x with
  | cells => trivial
  | map => trivial
  | mapU => trivial
  | siter => trivial
  | miter m n seen =>
    have hor := g
    obtain ⟨p', hp', q, hq, hw, h00⟩ := kw.obj _ _ g
    rw [hp] at hp'; cases hp'
    show Sound1 P o act φ h w (mapAt (.fail 47) (fun es => sel (Nat.beq (lenM es) n) (nxtE h (nxtM h i m n seen es 0)) (.fail 47)) h m)
    refine mapAt_elim (C := fun r => Sound1 P o act φ h w r) kw hq (fun _ => trivial) fun es l clock hg hb her hcl => ?_
    show Sound1 P o act φ h w (sel (Nat.beq (lenM es) n) (nxtE h (nxtM h i m n seen es 0)) (.fail 47))
    refine sel_elim (C := fun r => Sound1 P o act φ h w r) (fun hlen => ?_) fun _ => trivial
    have hlen := Nat.eq_of_beq_eq_true hlen
    have hln : l.size = n := by rw [← hlen, ER_len her]; simp
    obtain rfl : clock = n := by omega
    have hx' : act.eval it = .pointer (some ⟨p.blk, 0, none⟩) := by rw [hx, h00]
    have hexec : execOp act.eval o = (do pure (Next.value (← Instr.next (.pointer (some ⟨p.blk, 0, none⟩)) false o.type))) := by simp only [execOp, ho, hx']
    have hborn : ∀ e ∈ l.toList, e.born < clock := fun e he => by have := ER_born her e he; simp at this; omega
    have hlt : p.blk < w.heap.size := (show OR φ p w (.miter m clock seen) from ⟨q, hq, hw, h00⟩).lt
    rcases next_run (P := P) hw hb hborn o.type with ⟨hall, w1, e1, e2, e3, e4, hrun⟩ | ⟨e, he, hns, w1, e1, e2, e3, e4, hrun⟩
    · rw [nxtM_none her hall]
      refine ⟨_, _, w1, φ, by rw [hexec]; exact run_value hrun, .inl rfl, ⟨_, rfl, VL.cons rfl (VL.nil _)⟩, ?_⟩
      exact Stp.sameHeap kw e1 e2 e3 e4
    · obtain ⟨k, v, r, hk, hv, hr, hS⟩ := nxtM_some (h := h) (i := i) (m := m) (n := clock) her e he hns
      rw [hr]
      refine hS (fun r => Sound1 P o act φ h w r) (fun a b h => .inl h) (fun a b h => .inr h) ?_
      refine ⟨_, _, _, φ, by rw [hexec]; exact run_value hrun, .inl rfl, ⟨_, rfl, VL.cons rfl (VL.cons hk (VL.cons hv (VL.nil _)))⟩, ?_⟩
      refine kw.modify (w' := { w1 with heap := w1.heap.setIfInBounds p.blk (.mapIter (some q.blk) clock (seen.toArray.push e.born) clock) }) (b := .miter m clock (snocN seen e.born)) ⟨_, g, rfl⟩ hp ⟨e2, e3, e4, by simp [e1], fun b hb' hne => ?_⟩ ⟨q, hq, ?_, h00⟩
      · show (w1.heap.setIfInBounds p.blk _)[b]? = _
        rw [Array.getElem?_setIfInBounds_ne (fun e => hne e.symm), e1]
      · show (w1.heap.setIfInBounds p.blk _)[p.blk]? = _
        rw [e1, Array.getElem?_setIfInBounds_self_of_lt hlt, snocN_eq]
        simp
theorem lastN_some : ∀ {l : List Nat} {j : Nat}, lastN l = some j → l.toArray.back? = some j
  | [], j, h => by cases h
  | a :: l, j, h => by
    replace h : some (Option.rec (motive := fun _ => Nat) a (fun b => b) (lastN l)) = some j := h
    injection h with h
    cases hl : lastN l with
    | none =>
      rw [hl] at h
      cases l with
      | nil => cases h; rfl
      | cons b l => cases hl
    | some b =>
      rw [hl] at h
      obtain rfl : b = j := h
      have := lastN_some hl
      cases l with
      | nil => cases hl
      | cons c l => simpa using this
theorem entM_sound : ∀ {es : ML} {l : List MapEntry} {n j : Nat} {C : R1 → Prop}, ER φ es l n → (∀ m, C (.fail m)) → (∀ k v e, VR φ k e.key → VR φ v e.val → l.find? (fun e => e.born == n + j) = some e → C (.v (.tup (.cons k (.cons v .nil))) h)) → C (entM h es j)
  | .nil, _, _, _, C, _, hd, _ => hd _
  | .c k v es, [], _, _, C, h, _, _ => by simp [ER] at h
  | .c k v es, e :: l, n, 0, C, ⟨h1, h2, h3, h4⟩, hd, hk => hk k v e h1 h2 (by simp [h3])
  | .c k v es, e :: l, n, j + 1, C, ⟨h1, h2, h3, h4⟩, hd, hk => by
    show C (entM h es j)
    refine entM_sound h4 hd fun k v e' g1 g2 g3 => hk k v e' g1 g2 ?_
    rw [List.find?_cons_of_neg (by simp [h3])]
    rw [← g3]
    congr 1
    funext x
    rw [show n + 1 + j = n + (j + 1) by omega]
theorem oEntry_sound (kf : FR φ fr act) (kw : WR φ h w) {it : Operand} (ho : o.op = .entry it) : SoundR P o act φ h w (oEntry it fr h) := by
  have hx := ev_sound kf it
  unfold oEntry
  refine onPtr_elim trivial fun i off e => sel_elim (fun h0 => ob_elim trivial fun x g => ?_) fun _ => trivial
  obtain rfl := Nat.eq_of_beq_eq_true h0
  rw [e] at hx
  obtain ⟨p, hp, hx⟩ := hx
  cases x with
  | cells => trivial
  | map => trivial
  | mapU => trivial
  | siter => trivial
  | miter m n seen =>
    obtain ⟨p', hp', q, hq, hw, h00⟩ := kw.obj _ _ g
    rw [hp] at hp'; cases hp'
    show SoundR P o act φ h w (ob (lastN seen) fun j => mapAt (.fail 48) (fun es => sel (Nat.beq (lenM es) n) (entM h es j) (.fail 48)) h m)
    refine ob_elim trivial fun j hj => mapAt_elim (C := fun r => SoundR P o act φ h w r) kw hq (fun _ => trivial) fun es l clock hg hb her hcl => ?_
    show SoundR P o act φ h w (sel (Nat.beq (lenM es) n) (entM h es j) (.fail 48))
    refine sel_elim (C := fun r => SoundR P o act φ h w r) (fun hlen => ?_) fun _ => trivial
    have hlen := Nat.eq_of_beq_eq_true hlen
    have hln : l.size = n := by rw [← hlen, ER_len her]; simp
    obtain rfl : clock = n := by omega
    have hx' : act.eval it = .pointer (some ⟨p.blk, 0, none⟩) := by rw [hx, h00]
    have hexec : execOp act.eval o = (do pure (Next.value (← Instr.entry (.pointer (some ⟨p.blk, 0, none⟩))))) := by simp only [execOp, ho, hx']
    refine entM_sound her (fun _ => trivial) fun k v e hk hv hf => ?_
    refine SoundR.value (v := .tuple #[e.key, e.val]) ?_ ⟨_, rfl, VL.cons hk (VL.cons hv (VL.nil _))⟩
    rw [hexec]
    refine run_value ?_
    have g1 : (getObj p.blk).run P w = .ok (.mapIter (some q.blk) clock seen.toArray clock) w := by simp [getObj, Sem.run, hw]
    have g2 : (getObj q.blk).run P w = .ok (.map l clock) w := by simp [getObj, Sem.run, hb]
    have hfa : l.find? (fun e => e.born == j) = some e := by
      rw [← Array.find?_toList]
      rw [Nat.zero_add] at hf
      exact hf
    unfold Instr.entry
    simp [g1, g2, lastN_some hj, hfa]
end
end Go.Exe
