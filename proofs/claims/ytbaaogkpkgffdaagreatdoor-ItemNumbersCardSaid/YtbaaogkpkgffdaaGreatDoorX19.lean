/- A part of an executor of the model over abstract values, and what it tells of the calls. -/
import Derived.Test.YtbaaogkpkgffdaaGreatDoorX18
namespace Go.Exe
open Go
set_option linter.unusedSectionVars false
variable [Env]

section
variable {tt : TT} {P : Program} {act : Act} {φ : PM} {fr : Fr} {h : Hp} {w : World}

/-! ### what a call hands back -/
def resOne (tmps : Array Value) : ResultVar → Sem Value
  | .tmp t => pure (tmps.getD t undef)
  | .cell a t => do Go.loadVar t (← asAddr (tmps.getD a undef))

theorem resR_sound (ht : TTok P tt) (kf : FR φ fr act) (kw : WR φ h w) {r : ResultVar} {x : AV} (e : resR tt h fr r = some x) : ∃ v, (resOne act.tmps r).run P w = .ok v w ∧ VR φ x v := by
  cases r with
  | tmp t => exact ⟨_, rfl, kf.get t x e⟩
  | cell a t =>
    replace e : cellR tt h t (evT a fr) = some x := e
    have hv := evT_sound kf a
    unfold cellR at e
    cases hc : evT a fr <;> rw [hc] at e <;> first | (cases e; done) | skip
    rename_i i o
    rw [hc] at hv
    obtain ⟨p, hp, hv⟩ := hv
    replace e : (Option.rec (motive := fun _ => Option AV) none (fun te => loadVar te h i o) (ty tt t)) = some x := e
    cases hte : ty tt t with
    | none => rw [hte] at e; cases e
    | some te =>
      rw [hte] at e
      obtain ⟨v, hrun, hr⟩ := loadVar_sound (P := P) kw (ht t te hte) e hp
      refine ⟨v, ?_, hr⟩
      simp [resOne, hv, asAddr, hrun]

theorem ressR_sound (ht : TTok P tt) (kf : FR φ fr act) (kw : WR φ h w) : ∀ {l : List ResultVar} {x : AV}, ressR tt h fr l = some x → ∃ vs : List Value, (l.mapM (resOne act.tmps)).run P w = .ok vs w ∧ VL φ x vs := by
  intro l
  induction l with
  | nil => intro x e; cases e; exact ⟨[], rfl, VL.nil _⟩
  | cons r l ih =>
    intro x e
    obtain ⟨b, m, h1, h2, rfl⟩ := consO_inv (a := resR tt h fr r) (l := ressR tt h fr l) e
    obtain ⟨v, hv, hr⟩ := resR_sound ht kf kw h1
    obtain ⟨vs, hvs, hrs⟩ := ih h2
    exact ⟨v :: vs, by simp [List.mapM_cons, hv, hvs], VL.cons hr hrs⟩

theorem results_run {fn : Func} {tmps : Array Value} {vs : List Value} (e : (fn.results.toList.mapM (resOne tmps)).run P w = .ok vs w) :
    (results fn tmps).run P w = .ok (if h : vs.toArray.size = 1 then vs.toArray[0] else .tuple vs.toArray) w := by
  have h1 : results fn tmps = (do let vs ← fn.results.mapM (resOne tmps); pure (if h : vs.size = 1 then vs[0] else .tuple vs)) := by
    unfold results
    congr 1
  rw [h1, Array.mapM_eq_mapM_toList]
  simp [e]

theorem oneV_sound {h : Hp} {x : AV} {vs : List Value} (hv : VL φ x vs) {a : AV} {h' : Hp} (e : oneV h x = .val a h') : h' = h ∧ VR φ a (if h : vs.toArray.size = 1 then vs.toArray[0] else .tuple vs.toArray) := by
  unfold oneV at e
  cases x with
  | nil =>
    obtain rfl := VL_nil_inv hv
    cases e
    exact ⟨rfl, ⟨#[], rfl, VL.nil _⟩⟩
  | cons b r =>
    obtain ⟨v, vs', rfl, h1, h2⟩ := VL_cons_inv hv
    replace e : onNil (CR.val (.tup (.cons b r)) h) (CR.val b h) r = CR.val a h' := e
    cases r with
    | nil =>
      obtain rfl := VL_nil_inv h2
      cases e
      exact ⟨rfl, h1⟩
    | cons c s =>
      obtain ⟨v2, vs2, rfl, h3, h4⟩ := VL_cons_inv h2
      cases e
      refine ⟨rfl, ?_⟩
      rw [dif_neg (by simp)]
      exact ⟨_, rfl, hv⟩
    | _ => exact False.elim h2
  | _ => exact False.elim hv

/-! ### a function -/
structure FEok (P : Program) (tt : TT) (f : Nat) (fe : FE) : Prop where
  fn : ∃ fn, P.funcs[f]? = some fn ∧ (fn.name == "runtime.NumGoroutine") = false ∧ fn.body = some fe.body ∧ fe.ntmps = fn.ntmps ∧ fe.results = fn.results.toList
  nl : fe.nl ≤ fe.ntmps
  sch : schedC tt fe.sch fe.body = true

def FTok (P : Program) (tt : TT) (ft : Tr FE) : Prop := ∀ f fe, getP (pt f) ft = some fe → FEok P tt f fe
def OrcOk (P : Program) (orc : Nat → Option (AV → Hp → CR)) : Prop := ∀ f g, orc f = some g → ∀ args h a h', g args h = .val a h' → FnOk P f ∧ CallOk P f args h a h'

theorem frame0_sound (hg : GOk φ) {fe : FE} (hn : fe.nl ≤ fe.ntmps) {args : AV} {argv : Array Value} (ha : VL φ args argv.toList) :
    FR φ (frame0 fe args) { tmps := argv ++ Array.replicate (fe.ntmps - argv.size) undef, defers := [] } := by
  have key : ∀ t x, getF t (frame0 fe args) = some x → t < fe.nl ∧ ∃ v, argv[t]? = some v ∧ VR φ x v := by
    intro t x e
    rw [getF_eq] at e
    unfold frame0 at e
    cases hb : Nat.blt t fe.nl with
    | false => rw [hb] at e; cases e
    | true =>
      rw [hb] at e
      replace e : getP (pt t) (putL args 0 .E) = some x := e
      refine ⟨blt_lt hb, ?_⟩
      by_cases ht : t < argv.size
      · obtain ⟨b, v, g1, g2, g3⟩ := (putL_get ha 0 .E t).2 (by omega) (by simpa using ht)
        rw [g1] at e; cases e
        exact ⟨v, by simpa using g2, g3⟩
      · rw [(putL_get ha 0 .E t).1 (.inr (by simp; omega))] at e
        simp at e
  refine ⟨hg, ?_, fun t x e => ?_, fun t x e => ?_⟩
  · show fe.ntmps ≤ _
    simp; omega
  · exact Nat.lt_of_lt_of_le (key t x e).1 hn
  · obtain ⟨_, v, hv, hr⟩ := key t x e
    have hlt : t < argv.size := (Array.getElem?_eq_some_iff.1 hv).1
    rw [Array.getD_eq_getD_getElem?, Array.getElem?_append_left hlt, hv]
    exact hr

theorem mergeC_inv {h : Hp} {x y : CR} {a : AV} {h' : Hp} (e : mergeC h x y = .val a h') : ∃ h1 h2, x = .val a h1 ∧ y = .val a h2 ∧ beqP h1.n h2.n = true ∧ h' = mergeH h h1 h2 := by
  cases x with
  | fail => cases e
  | val b h1 => cases y with
    | fail => cases e
    | val c h2 =>
      replace e : sel (eqAV b c) (sel (beqP h1.n h2.n) (CR.val b (mergeH h h1 h2)) (.fail 79)) (.fail 79) = .val a h' := e
      cases e1 : eqAV b c <;> rw [e1] at e
      · cases e
      replace e : sel (beqP h1.n h2.n) (CR.val b (mergeH h h1 h2)) (.fail 79) = .val a h' := e
      cases e2 : beqP h1.n h2.n <;> rw [e2] at e
      · cases e
      cases e
      rw [eqAV_iff e1]
      exact ⟨h1, h2, rfl, rfl, e2, rfl⟩
theorem endR_lives {rs : List ResultVar} {h : Hp} : ∀ {x : Res} {a : AV} {h' : Hp}, endR tt rs h x = .val a h' → Lives x
  | .fail _, _, _, e => by cases e
  | .norm _ _, _, _, _ => trivial
  | .exit _ _ _, _, _, _ => trivial
  | .ret _ _, _, _, _ => trivial
  | .alt x y, a, h', e => by
    obtain ⟨h1, h2, ex, ey, _⟩ := mergeC_inv (show mergeC h (endR tt rs h x) (endR tt rs h y) = .val a h' from e)
    exact ⟨endR_lives ex, endR_lives ey⟩
theorem enterR_sound (ht : TTok P tt) (hm : P.follows .mixedOrders = true) {cf : CallF} (hcf : CFok P cf) {f : Nat} {fe : FE} (hfe : FEok P tt f fe) {args : AV} {a : AV} {h' : Hp} (e : enterR tt cf fe args h = .val a h') :
    FnOk P f ∧ CallOk P f args h a h' := by
  obtain ⟨fn, h1, h2, h3, h4, h5⟩ := hfe.fn
  refine ⟨⟨fn, fe.body, h1, h2, h3⟩, fun φ w argv kw ha => ?_⟩
  have kf := frame0_sound kw.gl (fe := fe) hfe.nl ha
  refine calls_of_wp h1 h3 ?_
  rw [← h4]
  unfold enterR at e
  have hlive : Lives (codeR tt cf fe.sch fe.body (frame0 fe args) h) := endR_lives e
  refine wp_mono (codeR_sound ht hm hcf fe.body hfe.sch kf kw rfl rfl hlive) ?_
  -- what stands at the end
  have fin : ∀ (fr1 : Fr) (h1 : Hp) (a1 : Act) (w1 : World) (a : AV) (h' : Hp), finR tt fe.results fr1 h1 = .val a h' → Good φ h w fr1 h1 a1 w1 →
      a1.defers = [] ∧ ∃ v, (results fn a1.tmps).run P w1 = .ok v w1 ∧ ∃ v' φ', Ending.returned v = .returned v' ∧ VR φ' a v' ∧ Stp φ h w φ' h' w1 := by
    rintro fr1 h1 a1 w1 a h' e ⟨φ1, kf1, hs1, hd1⟩
    unfold finR at e
    cases hr : ressR tt h1 fr1 fe.results with
    | none => rw [hr] at e; cases e
    | some x =>
      rw [hr] at e
      obtain ⟨vs, hvs, hx⟩ := ressR_sound ht kf1 hs1.wr hr
      obtain ⟨rfl, hv⟩ := oneV_sound hx (show oneV h1 x = .val a h' from e)
      rw [h5] at hvs
      exact ⟨hd1, _, results_run hvs, _, φ1, rfl, hv, hs1⟩
  have all : ∀ (x : Res) (a : AV) (h' : Hp), endR tt fe.results h x = .val a h' → ∀ (e1 : Exit) (a1 : Act) (w1 : World), QR φ h w x e1 a1 w1 →
      (e1 = .normal ∨ e1 = .ret) ∧ a1.defers = [] ∧ ∃ v, (results fn a1.tmps).run P w1 = .ok v w1 ∧ ∃ v' φ', Ending.returned v = .returned v' ∧ VR φ' a v' ∧ Stp φ h w φ' h' w1 := by
    intro x
    induction x with
    | fail n => intro a h' e e1 a1 w1 q; exact q.elim
    | norm fr1 h1 => intro a h' e e1 a1 w1 q; obtain ⟨rfl, g⟩ := q; exact ⟨.inl rfl, fin _ _ _ _ _ _ e g⟩
    | exit id fr1 h1 => intro a h' e; cases e
    | ret fr1 h1 => intro a h' e e1 a1 w1 q; obtain ⟨rfl, g⟩ := q; exact ⟨.inr rfl, fin _ _ _ _ _ _ e g⟩
    | alt x y ix iy =>
      intro a h' e e1 a1 w1 q
      obtain ⟨h1, h2, ex, ey, hn, rfl⟩ := mergeC_inv (show mergeC h (endR tt fe.results h x) (endR tt fe.results h y) = .val a h' from e)
      rcases q with q | q
      · obtain ⟨k1, k2, v, k3, v', φ', k4, k5, k6⟩ := ix _ _ ex _ _ _ q
        exact ⟨k1, k2, v, k3, v', φ', k4, k5, merge_left kw k6⟩
      · obtain ⟨k1, k2, v, k3, v', φ', k4, k5, k6⟩ := iy _ _ ey _ _ _ q
        exact ⟨k1, k2, v, k3, v', φ', k4, k5, merge_right hn kw k6⟩
  intro e1 a1 w1 q
  obtain ⟨k1, k2⟩ := all _ _ _ e _ _ _ q
  rcases k1 with rfl | rfl
  · exact k2
  · exact k2

/-- **a run of the executor tells what a call does, in every world that fits** -/
theorem callAt_sound (ht : TTok P tt) (hm : P.follows .mixedOrders = true) {ft : Tr FE} (hft : FTok P tt ft) {orc : Nat → Option (AV → Hp → CR)} (ho : OrcOk P orc) : ∀ n, CFok P (callAt tt ft orc n) := by
  intro n
  induction n with
  | zero => intro f args h a h' e; cases e
  | succ n ih =>
    intro f args h a h' e
    replace e : dispR tt ft orc (callAt tt ft orc n) f args h = .val a h' := e
    unfold dispR at e
    cases hg : orc f with
    | some g => rw [hg] at e; exact ho f g hg args h a h' e
    | none =>
      rw [hg] at e
      cases hfe : getP (pt f) ft with
      | none => rw [hfe] at e; cases e
      | some fe => rw [hfe] at e; exact enterR_sound ht hm ih (hft f fe hfe) e

end
end Go.Exe
