/- A part of an executor of the model over abstract values, and what it tells of the calls. -/
import Derived.Test.YtbaaogkpkgffdaaGreatDoorX14
namespace Go.Exe
open Go
set_option linter.unusedSectionVars false
variable [Env]

section
variable (tt : TT)

/-! ### append -/
noncomputable def roomOk (te : TE) (need : Nat) : Bool := sel (Nat.ble (Nat.mul need te.bytes) 140737488355328) (Nat.ble need 4611686018427387904) false
noncomputable def killIf (op : Bool) (h : Hp) (i : Pt) : Hp := sel op (kill h i) h
noncomputable def growWith (h : Hp) (i : Pt) (es len n : Nat) (new : AV) (op mk : Bool) (t0 : Tr AV) : R1 :=
  hpN h fun id => .v (.sl id 0 (Nat.add len n) (Nat.add len n) es true) (newH (killIf op h i) (.cells (Nat.mul (Nat.add len n) es) (putL new (Nat.mul len es) t0) true mk))
noncomputable def growIn (h : Hp) (i : Pt) (o es len n : Nat) (new : AV) (op : Bool) (s : Nat) (t : Tr AV) (opb mk : Bool) : R1 := sel (wrF opb mk) (
  sel (Nat.ble (Nat.add o (Nat.mul len es)) s) (sel (Nat.beq o 0) (growWith h i es len n new op mk t) (ob (loadN h i (Nat.mul len es) o) fun old => growWith h i es len n new op mk (putL old 0 .E))) (.fail 31)) (.fail 31)
noncomputable def appSl (te : TE) (h : Hp) (n : Nat) (new : AV) (i : Pt) (o len cap es : Nat) (op : Bool) : R1 :=
  sel (Nat.beq te.size es) (sel (roomOk te (Nat.add len n)) (sel (allOne new)
    (sel (Nat.ble (Nat.add len n) cap) (ob (storeL h i (Nat.add o (Nat.mul len es)) new) fun h' => .v (.sl i o (Nat.add len n) cap es op) h') (blk (.fail 31) (growIn h i o es len n new op) h i)) (.fail 30)) (.fail 30)) (.fail 30)
noncomputable def appNil (te : TE) (h : Hp) (n : Nat) (new : AV) : R1 := sel (Nat.beq n 0) (.v .nils h) (sel (roomOk te n) (hpN h fun i => .v (.sl i 0 n n te.size true) (newBlk h new true false)) (.fail 30))
noncomputable def appTo (te : TE) (s : AV) (h : Hp) (n : Nat) (new : AV) : R1 := onSl (onNils (.fail 32) (appNil te h n new) s) (appSl te h n new) s
noncomputable def appNone (s : AV) (h : Hp) : R1 := onSl (onNils (.fail 32) (.v .nils h) s) (fun i o len cap es op => sel (Nat.ble len cap) (.v (.sl i o len cap es op) h) (.fail 32)) s
noncomputable def appSrc (te : TE) (s : AV) (h : Hp) (x : AV) (k : Nat → AV → R1) : R1 := onSl (onNils (.fail 33) (appNone s h) x) (fun i o len _ es _ => sel (Nat.beq te.size es) (ob (loadN h i (Nat.mul len es) o) (k len)) (.fail 33)) x
noncomputable def appV (t : Nat) (s x : AV) (h : Hp) : R1 := elemOf tt t fun _ te => appSrc te s h x (appTo te s h)

variable {tt} {P : Program} {o : Oper} {act : Act} {φ : PM} {fr : Fr} {h : Hp} {w : World}

/-- what a value-yielding run does to the world -/
def SoundV (P : Program) (s : Sem Value) (φ : PM) (h : Hp) (w : World) : R1 → Prop
  | .fail _ => True
  | .v a h' => ∃ v w' φ', s.run P w = .ok v w' ∧ VR φ' a v ∧ Stp φ h w φ' h' w'
  | .call _ _ => False
  | .or _ _ => False

theorem SoundV.sound {s : Sem Value} {r : R1} (k : SoundV P s φ h w r) (e : execOp act.eval o = do pure (Next.value (← s))) : Sound1 P o act φ h w r := by
  cases r with
  | fail => trivial
  | v a h' => obtain ⟨v, w', φ', h1, h2, h3⟩ := k; exact ⟨_, v, w', φ', by rw [e]; exact run_value h1, .inl rfl, h2, h3⟩
  | call => exact False.elim k
  | or => exact False.elim k

theorem SoundV.mk {s : Sem Value} {a : AV} {h' : Hp} {v : Value} {w' : World} {φ' : PM} (h1 : s.run P w = .ok v w') (h2 : VR φ' a v) (h3 : Stp φ h w φ' h' w') : SoundV P s φ h w (.v a h') := ⟨v, w', φ', h1, h2, h3⟩

theorem WR.heap {φ : PM} {h : Hp} {w w' : World} (k : WR φ h w) (e : w'.heap = w.heap) : WR φ h w' :=
  ⟨k.gl, fun i o hi => let ⟨p, hp, ho⟩ := k.obj i o hi; ⟨p, hp, ho.heap (by rw [e])⟩, k.inj, k.fresh⟩

theorem Stp.sameHeap {φ : PM} {h : Hp} {w w1 : World} (k : WR φ h w) (e1 : w1.heap = w.heap) (e2 : w1.os = w.os) (e3 : w1.tape = w.tape) (e4 : w1.output = w.output) : Stp φ h w φ h w1 :=
  ⟨PM.le_refl _, k.heap e1, ⟨e2, e3, e4, by rw [e1]; exact Nat.le_refl _, fun _ _ _ => by rw [e1]⟩, fun i p hi hp => .inl ⟨i, p, hi, hp, rfl⟩, fun i p hi hp => .inl ⟨i, p, hi, hp, rfl⟩, Nat.le_refl _, Lg.refl _⟩
theorem Stp.drew {φ : PM} {h : Hp} {w : World} (k : WR φ h w) : Stp φ h w φ h w.drew :=
  ⟨PM.le_refl _, k.heap rfl, ⟨rfl, rfl, rfl, Nat.le_refl _, fun _ _ _ => rfl⟩, fun i p hi hp => .inl ⟨i, p, hi, hp, rfl⟩, fun i p hi hp => .inl ⟨i, p, hi, hp, rfl⟩, Nat.le_refl _, Lg.refl _⟩

/-- the cells of a stretch, whether all of them are known or not -/
theorem WR.real {φ : PM} {h : Hp} {w : World} (k : WR φ h w) {i : Pt} {s : Nat} {t : Tr AV} {op mk : Bool} (g : getP i h.t = some (.cells s t op mk)) {p : PB} (hp : φ i = some p) {off n : Nat} (hn : off + n ≤ s) :
    ∃ l : List Value, l.length = n ∧ (∀ j v, l[j]? = some v → w.cell? ⟨p.blk, p.off + off + j, none⟩ = some v) ∧ ∀ j a, j < n → getP (pt (off + j)) t = some a → ∃ v, l[j]? = some v ∧ VR φ a v := by
  obtain ⟨q, hq, c, T, fr, hc, hs, htop, _, _, hall⟩ := k.obj _ _ g
  rw [hp] at hq; cases hq
  refine ⟨(c.toList.drop (p.off + off)).take n, by simp; omega, fun j v hj => ?_, fun j a hj hg => ?_⟩
  · rw [List.getElem?_take] at hj
    split at hj
    · rw [List.getElem?_drop] at hj
      simp [World.cell?, hc]
      simpa using hj
    · cases hj
  · obtain ⟨v, hv, hr⟩ := hall (off + j) a (by omega) hg
    refine ⟨v, ?_, hr⟩
    rw [List.getElem?_take, if_pos hj, List.getElem?_drop]
    simpa [Nat.add_assoc] using hv

theorem run_append_in {t ty e : TypeId} {i : TypeInfo} (ht : P.underlying t = some (.slice e)) (hi : P.info? e = some i) (b : Addr) (sLen sCap : Nat) {x : Value} {n : Nat} {news : Array Value}
    (hlen : ∀ w, (Builtin.lenOf x).run P w = .ok n w) (hnews : (Builtin.firstCells i.size n x).run P w = .ok news w) (hn : sLen + n ≤ sCap) {w' : World} (hst : (storeCells (b.add (sLen * i.size)) news.toList).run P w = .ok () w') :
    (Builtin.append_ #[t, t] ty #[.slice (some b) sLen sCap, x]).run P w = .ok (.slice (some b) (sLen + n) sCap) w' := by
  simp [Builtin.append_, run_underlying ht, Exe.run_sizeOf hi, hlen, hn, hnews, hst]

theorem roomOk_inv {te : TE} {n : Nat} (h : roomOk te n = true) : n * te.bytes ≤ 140737488355328 ∧ n ≤ 4611686018427387904 := by
  unfold roomOk at h
  cases e : Nat.ble (Nat.mul n te.bytes) 140737488355328 with
  | false => rw [e] at h; cases h
  | true => rw [e] at h; exact ⟨Nat.le_of_ble_eq_true e, Nat.le_of_ble_eq_true h⟩

theorem kill_n (op : Bool) (h : Hp) (i : Pt) : (killIf op h i).n = h.n := by cases op <;> rfl

theorem killIf_Stp (kw : WR φ h w) (op : Bool) (i : Pt) : Stp φ h w φ (killIf op h i) w := by
  cases op with
  | false => exact Stp.refl kw
  | true => exact kw.kill i

/-- what is told of the cells behind a growth -/
theorem grown_cells {φ : PM} {c : Array Value} {d len es n : Nat} {t0 : Tr AV} {new : AV} {olds news : List Value} (hln : news.length = n * es) (hv : VL φ new news)
    (h0 : ∀ j a, j < len * es → getP (pt j) t0 = some a → ∃ v, olds[j]? = some v ∧ VR φ a v) (hc1 : ∀ j v, olds[j]? = some v → c[d + j]? = some v) (hc2 : ∀ j v, news[j]? = some v → c[d + len * es + j]? = some v) :
    ∀ j a, j < (len + n) * es → getP (pt j) (putL new (len * es) t0) = some a → ∃ v, c[d + j]? = some v ∧ VR φ a v := by
  intro j a hj hg
  rw [Nat.add_mul] at hj
  by_cases hin : len * es ≤ j
  · obtain ⟨b, v, g1, g2, g3⟩ := (putL_get hv (len * es) t0 j).2 hin (by omega)
    rw [g1] at hg; cases hg
    refine ⟨v, ?_, g3⟩
    have := hc2 _ _ g2
    rwa [show d + len * es + (j - len * es) = d + j from by omega] at this
  · rw [(putL_get hv (len * es) t0 j).1 (by omega)] at hg
    obtain ⟨v, h1, h2⟩ := h0 j a (by omega) hg
    exact ⟨v, hc1 _ _ h1, h2⟩

theorem growWith_sound {e : Nat} {te : TE} (hte : TEok P e te) {t tyr : TypeId} (hu : P.underlying t = some (.slice e)) (kw : WR φ h w) {i : Pt} {off len cap c n : Nat} {op mk opb : Bool} {s : Nat} {tr : Tr AV} (g : getP i h.t = some (.cells s tr opb mk)) (hwr : wrF opb mk = true)
    {p : PB} (hp : φ i = some p) (hclosed : op = false → c = cap) (hopen : op = true → p.off + off + c * te.size ≤ p.top) (hneed : cap < len + n) (hroom : (len + n) * te.bytes ≤ 140737488355328 ∧ len + n ≤ 4611686018427387904)
    {x : Value} {b2 : Addr} {cx : Nat} (hx : x = .slice (some b2) n cx) {new : AV} {news : List Value} (hv : VL φ new news) (hln : news.length = n * te.size) (h1 : oneCells news) (hnews : ∀ j v, news[j]? = some v → w.cell? (b2.add j) = some v)
    {olds : List Value} (hlo : olds.length = len * te.size) (holds : ∀ j v, olds[j]? = some v → w.cell? ⟨p.blk, p.off + off + j, none⟩ = some v)
    {t0 : Tr AV} (h0 : ∀ j a, j < len * te.size → getP (pt j) t0 = some a → ∃ v, olds[j]? = some v ∧ VR φ a v) :
    SoundV P (Builtin.append_ #[t, t] tyr #[.slice (some ⟨p.blk, p.off + off, none⟩) len c, x]) φ h w (growWith h i te.size len n new op mk t0) := by
  obtain ⟨inf, z, hi, hsz, hby, hz, _, _, hzs⟩ := hte.info
  subst hx
  obtain ⟨q, hq, cs, T, fr', hc, hso, htop, hmk, hf, hall⟩ := kw.obj _ _ g
  rw [hp] at hq; cases hq
  by_cases hin : len + n ≤ c
  · -- in place
    have hop : op = true := by
      cases op with
      | true => rfl
      | false => have := hclosed rfl; omega
    subst hop
    have hopen := hopen rfl
    have hmul : (len + n) * te.size ≤ c * te.size := Nat.mul_le_mul_right _ hin
    have hmul' : (len + n) * te.size = len * te.size + n * te.size := Nat.add_mul _ _ _
    obtain ⟨w', c', hrun, hw', hsz', hbut, _, hget⟩ := run_storeCells P ⟨p.blk, p.off + off + len * te.size, none⟩ rfl news 0 w cs T fr' hc (by simp; omega) (fun j h3 h4 => hf j (by simp at h4; omega)) h1
    have hle : φ.le (φ.set h.n ⟨p.blk, p.off + off, p.top⟩) := PM.le_set _ (kw.fresh _ (Nat.le_refl _)).2
    refine SoundV.mk (v := .slice (some ⟨p.blk, p.off + off, none⟩) (len + n) c) (w' := w') (φ' := φ.set h.n ⟨p.blk, p.off + off, p.top⟩) ?_ ⟨_, c, PM.set_same _ _ _, rfl, hin, (fun h => by cases h), fun _ => by show p.off + off + 0 + c * te.size ≤ p.top; omega⟩ ?_
    · refine run_append_in hu hi _ len c (n := n) (news := news.toArray) (fun w => by simp [Builtin.lenOf]) ?_ hin ?_
      · exact run_firstCells_some w _ _ _ _ _ _ (by rw [hsz]; exact hln) hnews
      · rw [hsz, Addr_add]; simpa using hrun
    · refine kw.rename (q := ⟨p.blk, p.off + off, p.top⟩) (b := .cells ((len + n) * te.size) (putL new (len * te.size) t0) true mk) (wrF_wrI g hwr) hp rfl hbut ⟨c', T, fr', hw', ?_, ?_, hmk, hf, ?_⟩
      · show p.off + off + (len + n) * te.size ≤ p.top; omega
      · show p.top ≤ c'.size; omega
      · intro j a hj hg
        have hA : ∀ (j : Nat) (v : Value), olds[j]? = some v → c'[p.off + off + j]? = some v := fun j v hj => by
          rw [hget]
          have hjl := (List.getElem?_eq_some_iff.1 hj).1
          rw [if_neg (by simp; omega)]
          have := holds j v hj
          simpa [World.cell?, hc] using this
        have hB : ∀ (j : Nat) (v : Value), news[j]? = some v → c'[p.off + off + len * te.size + j]? = some v := fun j v hj => by
          rw [hget]
          have hjl := (List.getElem?_eq_some_iff.1 hj).1
          simp only [Nat.add_zero]
          rw [if_pos (by omega), show p.off + off + len * te.size + j - (p.off + off + len * te.size) = j from by omega]
          exact hj
        obtain ⟨v, h1, h2⟩ := grown_cells (c := c') (d := p.off + off) hln hv h0 hA hB j a hj hg
        exact ⟨v, h1, h2.mono hle⟩
  · -- anew
    have hrun := run_append_grow (w := w) t tyr e inf z hu hi hz ⟨p.blk, p.off + off, none⟩ len c olds (by rw [hsz]; exact hlo) (fun j v hj => by rw [Addr_add]; exact holds j v hj) b2 n cx news (by rw [hsz]; exact hln) hnews (by omega) (by omega)
      (growslice_fits (by omega) (by rw [hby]; omega))
    have hst := killIf_Stp kw op i
    have kw1 : WR φ (killIf op h i) w.drew := hst.wr.heap rfl
    have hcap' : len + n ≤ grownCap w (len + n) c e := grownCap_ge _ _ _ _
    have hzc : z.cells.size = te.size := hzs
    have hsize : (olds.toArray ++ news.toArray ++ Builtin.zeroCells z.cells (grownCap w (len + n) c e - (len + n))).size = grownCap w (len + n) c e * te.size := by
      simp [Builtin.zeroCells, hzc, hlo, hln]
      rw [← Nat.add_mul, ← Nat.add_mul]; congr 1; omega
    generalize hcc : olds.toArray ++ news.toArray ++ Builtin.zeroCells z.cells (grownCap w (len + n) c e - (len + n)) = cells at hrun hsize
    have ha := kw1.alloc (.cells cells e) (.cells ((len + n) * te.size) (putL new (len * te.size) t0) true mk) (cells.size) (by
      have hle : φ.le (φ.set (killIf op h i).n ⟨w.drew.heap.size, 0, cells.size⟩) := PM.le_set _ (kw1.fresh _ (Nat.le_refl _)).2
      refine ⟨cells, e, (0, 0), Array.getElem?_push_size, ?_, Nat.le_refl _, fun _ => rfl, fun j _ => by simp, fun j a hj hg => ?_⟩
      · show 0 + (len + n) * te.size ≤ cells.size
        rw [hsize, Nat.zero_add]; exact Nat.mul_le_mul_right _ hcap'
      · have hA : ∀ (j : Nat) (v : Value), olds[j]? = some v → cells[0 + j]? = some v := fun j v hj => by
          have hjl := (List.getElem?_eq_some_iff.1 hj).1
          rw [← hcc, Nat.zero_add, Array.getElem?_append_left (by simp; omega), Array.getElem?_append_left (by simpa using hjl)]
          simpa using hj
        have hB : ∀ (j : Nat) (v : Value), news[j]? = some v → cells[0 + len * te.size + j]? = some v := fun j v hj => by
          have hjl := (List.getElem?_eq_some_iff.1 hj).1
          rw [← hcc, Nat.zero_add, Array.getElem?_append_left (by simp; omega), Array.getElem?_append_right (by simp; omega)]
          rw [show len * te.size + j - olds.toArray.size = j from by simp [hlo]]
          simpa using hj
        obtain ⟨v, h1, h2⟩ := grown_cells (c := cells) (d := 0) hln hv h0 hA hB j a hj hg
        exact ⟨v, h1, h2.mono hle⟩)
    refine SoundV.mk hrun (φ' := φ.set h.n ⟨w.heap.size, 0, cells.size⟩) ⟨_, _, PM.set_same _ _ _, by simp, hcap', (fun h => by cases h), fun _ => ?_⟩ ?_
    · show 0 + 0 + grownCap w (len + n) c e * te.size ≤ cells.size
      rw [hsize]; omega
    · have hdr : Stp φ h w φ (killIf op h i) w.drew := by
        have := hst.trans (Stp.drew hst.wr)
        exact this
      have := hdr.trans ha
      rw [kill_n] at this
      exact this

theorem run_append_none {t tyr e : TypeId} {i : TypeInfo} (ht : P.underlying t = some (.slice e)) (hi : P.info? e = some i) (base : Option Addr) (len cap : Nat) (hle : len ≤ cap) (w : World) :
    (Builtin.append_ #[t, t] tyr #[.slice base len cap, .slice none 0 0]).run P w = .ok (.slice base len cap) w := by
  cases base <;> simp [Builtin.append_, run_underlying ht, Exe.run_sizeOf hi, Builtin.lenOf, Builtin.firstCells, hle, storeCells]

theorem appNone_sound {e : Nat} {te : TE} (hte : TEok P e te) {t tyr : TypeId} (hu : P.underlying t = some (.slice e)) (kw : WR φ h w) {s : AV} {sv : Value} (hs : VR φ s sv) :
    SoundV P (Builtin.append_ #[t, t] tyr #[sv, .slice none 0 0]) φ h w (appNone s h) := by
  obtain ⟨inf, z, hi, _⟩ := hte.info
  unfold appNone
  refine onSl_elim (onNils_elim trivial fun es => ?_) fun i o len cap ess op es => sel_elim (fun h1 => ?_) fun _ => trivial
  · subst es
    obtain rfl : sv = .slice none 0 0 := hs
    exact SoundV.mk (run_append_none hu hi none 0 0 (Nat.le_refl 0) w) rfl (Stp.refl kw)
  · subst es
    obtain ⟨p, c, hp, rfl, hcap, r⟩ := hs
    have h1 := Nat.le_of_ble_eq_true h1
    exact SoundV.mk (run_append_none hu hi _ len c (Nat.le_trans h1 hcap) w) ⟨p, c, hp, rfl, hcap, r⟩ (Stp.refl kw)

theorem appTo_sound {e : Nat} {te : TE} (hte : TEok P e te) {t tyr : TypeId} (hu : P.underlying t = some (.slice e)) (kw : WR φ h w) {s : AV} {sv : Value} (hs : VR φ s sv)
    {n cx : Nat} {b2 : Addr} {new : AV} {news : List Value} (hv : VL φ new news) (hln : news.length = n * te.size) (hnews : ∀ j v, news[j]? = some v → w.cell? (b2.add j) = some v) :
    SoundV P (Builtin.append_ #[t, t] tyr #[sv, .slice (some b2) n cx]) φ h w (appTo te s h n new) := by
  obtain ⟨inf, z, hi, hsz, hby, hz, _, _, hzs⟩ := hte.info
  unfold appTo
  refine onSl_elim (onNils_elim trivial fun es => ?_) fun i off len cap ess op es => ?_
  · subst es
    obtain rfl : sv = .slice none 0 0 := hs
    unfold appNil
    refine sel_elim (fun h0 => ?_) fun h0 => sel_elim (fun hr => ?_) fun _ => trivial
    · have h0 := Nat.eq_of_beq_eq_true h0
      subst h0
      have hf := run_firstCells_some (P := P) w inf.size 0 b2 0 cx news (by rw [hsz]; exact hln) hnews
      refine SoundV.mk (v := .slice none 0 0) (w' := w) (φ' := φ) ?_ rfl (Stp.refl kw)
      simp [Builtin.append_, run_underlying hu, Exe.run_sizeOf hi, Builtin.lenOf, hf]
    · have h0 := beq_ne h0
      obtain ⟨hr1, hr2⟩ := roomOk_inv hr
      have hrun := run_append_nil (w := w) t tyr e inf z hu hi hz b2 n cx news (by rw [hsz]; exact hln) hnews (by omega) (by omega) (by rw [hby]; omega)
      have hcap' : n ≤ grownCap w n 0 e := grownCap_ge _ _ _ _
      have hsize : (news.toArray ++ Builtin.zeroCells z.cells (grownCap w n 0 e - n)).size = grownCap w n 0 e * te.size := by
        simp [Builtin.zeroCells, hzs, hln]
        rw [← Nat.add_mul]; congr 1; omega
      have hn := newBlk_sound (Stp.drew kw).wr hv true false (news.toArray ++ Builtin.zeroCells z.cells (grownCap w n 0 e - n)) e (0, 0) (fun j v hj => by
        have hjl := (List.getElem?_eq_some_iff.1 hj).1
        rw [Array.getElem?_append_left (by simpa using hjl)]; simpa using hj) (by rw [hsize, hln]; exact Nat.mul_le_mul_right _ hcap') (fun _ => rfl) (fun j _ => by simp)
      refine SoundV.mk hrun ⟨_, _, PM.set_same _ _ _, by simp, hcap', (fun h => by cases h), fun _ => ?_⟩ ((Stp.drew kw).trans hn)
      rw [hsize]
      show 0 + 0 + grownCap w n 0 e * te.size ≤ grownCap w n 0 e * te.size
      omega
  · subst es
    obtain ⟨p, c, hp, rfl, hcap, hcl, hop⟩ := hs
    unfold appSl
    refine sel_elim (fun hes => sel_elim (fun hr => sel_elim (fun ha => sel_elim (fun hin => ob_elim trivial fun h' hh => ?_) fun hin => ?_) fun _ => trivial) fun _ => trivial) fun _ => trivial
    · have hes := Nat.eq_of_beq_eq_true hes
      subst hes
      have hin := Nat.le_of_ble_eq_true hin
      have hin : len + n ≤ cap := hin
      obtain ⟨w', hrun, hst⟩ := storeL_sound (P := P) kw hv (allOne_sound hv ha) hh hp
      refine SoundV.mk (v := .slice (some ⟨p.blk, p.off + off, none⟩) (len + n) c) (φ' := φ) ?_ ⟨p, c, hp, rfl, hcap, hcl, hop⟩ hst
      refine run_append_in hu hi _ len c (n := n) (news := news.toArray) (fun w => by simp [Builtin.lenOf]) ?_ (by omega) ?_
      · exact run_firstCells_some w _ _ _ _ _ _ (by rw [hsz]; exact hln) hnews
      · rw [hsz, Addr_add, Nat.add_assoc]; simpa using hrun
    · have hes := Nat.eq_of_beq_eq_true hes
      subst hes
      have hneed : cap < len + n := by
        rcases Nat.lt_or_ge cap (len + n) with h | h
        · exact h
        · rw [show Nat.ble (Nat.add len n) cap = true from Nat.ble_eq_true_of_le h] at hin; cases hin
      by_cases hfail : blk (.fail 31) (growIn h i off te.size len n new op) h i = .fail 31
      · rw [hfail]; trivial
      obtain ⟨s, tr, opb, mk, g, hb⟩ := blk_inv hfail
      rw [hb]
      unfold growIn
      refine sel_elim (fun hwr => ?_) fun _ => trivial
      refine sel_elim (fun hle => sel_elim (fun h0 => ?_) fun h0 => ob_elim trivial fun old hold => ?_) fun _ => trivial
      · have hle : off + len * te.size ≤ s := Nat.le_of_ble_eq_true hle
        obtain rfl : off = 0 := Nat.eq_of_beq_eq_true h0
        obtain ⟨l, hl, hcell, hknown⟩ := kw.real g hp hle
        exact growWith_sound hte hu kw g hwr hp hcl hop hneed (roomOk_inv hr) rfl hv hln (allOne_sound hv ha) hnews hl hcell (fun j a hj hg => hknown j a hj (by simpa using hg))
      · obtain ⟨l, hl, hvl, hcell⟩ := kw.cells hold hp
        refine growWith_sound hte hu kw g hwr hp hcl hop hneed (roomOk_inv hr) rfl hv hln (allOne_sound hv ha) hnews hl hcell (fun j a hj hg => ?_)
        obtain ⟨b, v, g1, g2, g3⟩ := (putL_get hvl 0 .E j).2 (by omega) (by rw [hl, Nat.zero_add]; exact hj)
        rw [g1] at hg; cases hg
        exact ⟨v, by simpa using g2, g3⟩

theorem appV_sound (ht : TTok P tt) {t tyr : TypeId} (kw : WR φ h w) {s x : AV} {sv xv : Value} (hs : VR φ s sv) (hx : VR φ x xv) :
    SoundV P (Builtin.append_ #[t, t] tyr #[sv, xv]) φ h w (appV tt t s x h) := by
  unfold appV
  refine elemOf_elim ht (fun _ => trivial) fun e te hu hte => ?_
  unfold appSrc
  refine onSl_elim (onNils_elim trivial fun es => ?_) fun i off len cap ess op es => sel_elim (fun hes => ob_elim trivial fun new hnew => ?_) fun _ => trivial
  · subst es
    obtain rfl : xv = .slice none 0 0 := hx
    exact appNone_sound hte hu kw hs
  · subst es
    obtain ⟨p, c, hp, rfl, _⟩ := hx
    have hes := Nat.eq_of_beq_eq_true hes
    subst hes
    obtain ⟨l, hl, hvl, hcell⟩ := kw.cells hnew hp
    exact appTo_sound hte hu kw hs hvl hl (fun j v hj => by rw [Addr_add]; exact hcell j v hj)
end
end Go.Exe
