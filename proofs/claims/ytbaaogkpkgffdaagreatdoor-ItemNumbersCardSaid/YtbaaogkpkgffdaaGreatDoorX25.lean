/- A part of an executor of the model over abstract values, and what it tells of the calls. -/
import Derived.Test.YtbaaogkpkgffdaaGreatDoorX24
import Derived.Lib.Fields
namespace Go.Exe
open Go Go.RowKit
set_option linter.unusedSectionVars false

/-! ### strings.Fields, on ASCII bytes -/
/-- is a byte white space? (by a number's bits) -/
noncomputable def spN (c : Nat) : Bool := Nat.beq (Nat.mod (Nat.shiftRight 4294983168 c) 2) 1
noncomputable def ascN : Nat → Nat → Bool := Nat.rec (fun _ => true) (fun _ ih a => sel (Nat.blt (Nat.mod a 256) 128) (ih (Nat.div a 256)) false)
noncomputable def wordE (cl cv : Nat) (r : AV) : AV := sel (Nat.beq cl 0) r (.cons (.str cl cv) r)
noncomputable def wordsN : Nat → Nat → Nat → Nat → AV := Nat.rec (fun _ cl cv => wordE cl cv .nil) (fun _ ih a cl cv => sel (spN (Nat.mod a 256)) (wordE cl cv (ih (Nat.div a 256) 0 0)) (ih (Nat.div a 256) (Nat.succ cl) (Nat.add cv (Nat.mul (Nat.mod a 256) (Nat.pow 256 cl)))))

theorem spN_eq : ∀ c : Nat, c < 256 → spN c = Lib.isSp (UInt8.ofNat c) := by decide +kernel
theorem ascN_inv [Env] : ∀ (n a : Nat), ascN n a = true → ∀ (j : Nat) (b : UInt8), (bytesOf n a)[j]? = some b → b.toNat < 128 := by
  intro n
  induction n with
  | zero => intro a _ j b h; simp [bytesOf] at h
  | succ n ih =>
    intro a h j b hb
    replace h : sel (Nat.blt (Nat.mod a 256) 128) (ascN n (Nat.div a 256)) false = true := h
    cases hc : Nat.blt (Nat.mod a 256) 128 with
    | false => rw [hc] at h; cases h
    | true =>
      rw [hc] at h
      cases j with
      | zero =>
        have hb : UInt8.ofNat (a % 256) = b := by simpa [bytesOf] using hb
        have : Nat.mod a 256 < 128 := blt_lt hc
        rw [← hb, UInt8.toNat_ofNat']
        exact Nat.lt_of_le_of_lt (Nat.mod_le _ _) this
      | succ j => exact ih _ h j b (by simp only [bytesOf, List.getElem?_cons_succ] at hb; exact hb)

section
variable [Env]
/-- a row of strings -/
noncomputable def strVs (l : List (List UInt8)) : List Value := l.map fun x => Value.string ⟨x.toArray⟩
theorem wordE_VL {φ : PM} {cl cv : Nat} {r : AV} {cur : List UInt8} {l : List Value} (h1 : cur.length = cl) (h2 : ofB cur = cv) (hr : VL φ r l) : VL φ (wordE cl cv r) (if cur.isEmpty then l else Value.string ⟨cur.toArray⟩ :: l) := by
  unfold wordE
  cases cur with
  | nil => simp at h1; subst h1; exact hr
  | cons b cur =>
    have hne : Nat.beq cl 0 = false := by
      cases hb : Nat.beq cl 0 with
      | false => rfl
      | true => have := Nat.eq_of_beq_eq_true hb; simp at h1; omega
    rw [hne]
    refine VL.cons ⟨?_, ?_⟩ hr
    · unfold strB
      rw [← h1, ← h2, bytesOf_ofB]
    · rw [← h1, ← h2]; exact ofB_lt _
theorem wordsN_VL (φ : PM) : ∀ (n a cl cv : Nat) (cur : List UInt8), cur.length = cl → ofB cur = cv → VL φ (wordsN n a cl cv) (strVs (Lib.fieldsGo cur (bytesOf n a))) := by
  intro n
  induction n with
  | zero =>
    intro a cl cv cur h1 h2
    have := wordE_VL (φ := φ) h1 h2 (VL.nil φ)
    show VL φ (wordE cl cv .nil) _
    simp only [bytesOf, Lib.fieldsGo]
    cases cur <;> simpa [strVs] using this
  | succ n ih =>
    intro a cl cv cur h1 h2
    have hm : a % 256 < 256 := Nat.mod_lt _ (by decide)
    show VL φ (sel (spN (a % 256)) (wordE cl cv (wordsN n (a / 256) 0 0)) (wordsN n (a / 256) (cl + 1) (cv + a % 256 * 256 ^ cl))) _
    simp only [bytesOf, Lib.fieldsGo]
    rw [spN_eq _ hm]
    cases hs : Lib.isSp (UInt8.ofNat (a % 256)) with
    | true =>
      have h0 := ih (a / 256) 0 0 [] rfl rfl
      have := wordE_VL h1 h2 h0
      cases cur <;> simpa [strVs] using this
    | false =>
      simp only [Bool.false_eq_true, if_false]
      refine ih _ _ _ _ (by simp [h1]) ?_
      rw [ofB_append, h1, h2]
      have h0 : (UInt8.ofNat (a % 256)).toNat = a % 256 := by rw [UInt8.toNat_ofNat']; exact Nat.mod_eq_of_lt hm
      simp [ofB, h0, Nat.mul_comm]

noncomputable def fieldsV (h : Hp) (l : AV) : CR := hpN h fun i => .val (.sl i 0 (lenL l) (lenL l) 1 false) (newBlk h l false false)
noncomputable def orcFields (g : Nat) (args : AV) (h : Hp) : CR := onCons (.fail 83) (fun x r => onNil (.fail 83) (onStr (.fail 83) (fun n a => sel (Nat.ble n 4294967280) (sel (ascN n a) (sel (ascOk g h) (fieldsV h (wordsN n a 0 0)) (.fail 83)) (.fail 83)) (.fail 83)) x) r) args
/-- what strings.Fields does, as the kit's shelf tells it -/
def FieldsDo (P : Program) (f g t : Nat) : Prop := ∀ (s : ByteArray) (w : World), s.size < 4294967281 → (∀ (j : Nat) b, s.data.toList[j]? = some b → b.toNat < 128) → (∀ c : Nat, c < 256 → w.cell? ⟨g, c, none⟩ = some (.int .u8 (if Lib.isSp (UInt8.ofNat c) then 1 else 0))) →
    Calls P f #[.string s] w fun e w' => e = .returned (.slice (some ⟨w.heap.size, 0, none⟩) (Lib.fields s.data.toList).length (Lib.fields s.data.toList).length) ∧ w' = w.alloc (.cells ((Lib.fields s.data.toList).map fun l => Value.string ⟨l.toArray⟩).toArray t)

theorem ascOk_cells {φ : PM} {h : Hp} {w : World} (kw : WR φ h w) {g : Nat} (hg : g < 400) (e : ascOk g h = true) (c : Nat) (hc : c < 256) : w.cell? ⟨g, c, none⟩ = some (.int .u8 (if Lib.isSp (UInt8.ofNat c) then 1 else 0)) := by
  have kw2 := ascOk_sound kw hg e
  have ho : getP (pt g) (hG g).t = some (.cells 256 ascT false true) := getP_setP_same _ _ _
  obtain ⟨p, hp, cs, T, fr, h1, _, _, _, _, h6⟩ := kw2.obj _ _ ho
  obtain ⟨top, hφ⟩ := kw2.gl g hg
  have hp' := hp.symm.trans hφ
  cases hp'
  obtain ⟨v, hv, hr⟩ := h6 c _ hc (allAsc_get 256 0 ascT_all c (by omega) (by omega))
  have hr : v = .int .u8 (.ofNat (Nat.mod (Nat.shiftRight 4294983168 c) 2)) := hr
  have hv : cs[c]? = some v := by simpa using hv
  simp only [World.cell?, h1, hv, hr]
  congr 2
  have := spN_eq c hc
  rw [← this]
  unfold spN
  have hm : Nat.mod (Nat.shiftRight 4294983168 c) 2 < 2 := Nat.mod_lt _ (by decide)
  cases hb : Nat.beq (Nat.mod (Nat.shiftRight 4294983168 c) 2) 1 with
  | true => rw [Nat.eq_of_beq_eq_true hb]; rfl
  | false => have := beq_ne hb; have : Nat.mod (Nat.shiftRight 4294983168 c) 2 = 0 := by omega
             rw [this]; rfl
theorem orcFields_ok {P : Program} {f g t : Nat} (hf : FnOk P f) (hg : g < 400) (hc : FieldsDo P f g t) {args : AV} {h : Hp} {x : AV} {h' : Hp} (e : orcFields g args h = .val x h') : FnOk P f ∧ CallOk P f args h x h' := by
  refine ⟨hf, fun φ w argv kw hv => ?_⟩
  unfold orcFields at e
  cases args <;> first | (cases e; done) | skip
  rename_i y r
  replace e : onNil (CR.fail 83) (onStr (.fail 83) (fun n a => sel (Nat.ble n 4294967280) (sel (ascN n a) (sel (ascOk g h) (fieldsV h (wordsN n a 0 0)) (.fail 83)) (.fail 83)) (.fail 83)) y) r = .val x h' := e
  cases r <;> first | (cases e; done) | skip
  cases y <;> first | (cases e; done) | skip
  rename_i n a
  replace e : sel (Nat.ble n 4294967280) (sel (ascN n a) (sel (ascOk g h) (fieldsV h (wordsN n a 0 0)) (.fail 83)) (.fail 83)) (.fail 83) = CR.val x h' := e
  cases h1 : Nat.ble n 4294967280 <;> rw [h1] at e
  · cases e
  replace e : sel (ascN n a) (sel (ascOk g h) (fieldsV h (wordsN n a 0 0)) (.fail 83)) (.fail 83) = CR.val x h' := e
  cases h2 : ascN n a <;> rw [h2] at e
  · cases e
  replace e : sel (ascOk g h) (fieldsV h (wordsN n a 0 0)) (.fail 83) = CR.val x h' := e
  cases h3 : ascOk g h <;> rw [h3] at e
  · cases e
  replace e : CR.val (.sl h.n 0 (lenL (wordsN n a 0 0)) (lenL (wordsN n a 0 0)) 1 false) (newBlk h (wordsN n a 0 0) false false) = CR.val x h' := e
  cases e
  obtain ⟨v, vs, hvs, hs, hr⟩ := VL_cons_inv hv
  obtain rfl := VL_nil_inv hr
  obtain ⟨rfl, ha⟩ := hs
  have harg : argv = #[.string (strB n a)] := by apply Array.ext'; rw [hvs]
  rw [harg]
  have hw := wordsN_VL φ n a 0 0 [] rfl rfl
  refine (hc (strB n a) w (by rw [strB_size]; have := Nat.le_of_ble_eq_true h1; omega) (fun j b hb => ascN_inv n a h2 j b (by rwa [strB_data] at hb)) (ascOk_cells kw hg h3)).mono ?_
  rintro e w' ⟨rfl, rfl⟩
  rw [strB_data]
  have hl : lenL (wordsN n a 0 0) = (Lib.fields (bytesOf n a)).length := by rw [hw.len]; simp [strVs, Lib.fields]
  have hst := kw.alloc (.cells ((Lib.fields (bytesOf n a)).map fun l => Value.string ⟨l.toArray⟩).toArray t) (.cells (lenL (wordsN n a 0 0)) (putL (wordsN n a 0 0) 0 .E) false false) (Lib.fields (bytesOf n a)).length ⟨((Lib.fields (bytesOf n a)).map fun l => Value.string ⟨l.toArray⟩).toArray, t, (0, 0), by simp, by rw [hl]; simp, by simp, fun _ => rfl, fun j _ => by simp, fun j b hj hg' => by
    have hle : φ.le (φ.set h.n ⟨w.heap.size, 0, (Lib.fields (bytesOf n a)).length⟩) := PM.le_set _ (kw.fresh _ (Nat.le_refl _)).2
    obtain ⟨b', v, g1, g2, g3⟩ := (putL_get hw 0 .E j).2 (by omega) (by rw [← hw.len]; omega)
    rw [g1] at hg'; cases hg'
    exact ⟨v, by simpa [strVs, Lib.fields] using g2, g3.mono hle⟩⟩
  refine ⟨_, _, rfl, ⟨_, (Lib.fields (bytesOf n a)).length, PM.set_same _ _ _, by rw [hl], by rw [hl]; exact Nat.le_refl _, fun _ => hl.symm, fun h => by cases h⟩, hst⟩
end
end Go.Exe
