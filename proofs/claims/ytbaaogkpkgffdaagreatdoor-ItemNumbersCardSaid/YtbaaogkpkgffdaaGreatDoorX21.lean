/- A part of an executor of the model over abstract values, and what it tells of the calls. -/
import Derived.Test.YtbaaogkpkgffdaaGreatDoorX20
namespace Go.Exe
open Go Go.RowKit
set_option linter.unusedSectionVars false
variable [Env]

/-! ### oracles -/
theorem Stp.below {φ : PM} {h : Hp} {w w' : World} (k : WR φ h w) (b : Below w.heap.size w w') : Stp φ h w φ h w' :=
  ⟨PM.le_refl _, ⟨k.gl, fun i o hi => let ⟨p, hp, ho⟩ := k.obj i o hi; ⟨p, hp, ho.heap (b.block _ ho.lt)⟩, k.inj, k.fresh⟩, ⟨b.os, b.tape, b.output, b.size, fun i hi _ => b.block i hi⟩, fun i p hi hp => .inl ⟨i, p, hi, hp, rfl⟩, fun i p hi hp => .inl ⟨i, p, hi, hp, rfl⟩, Nat.le_refl _, Lg.refl _⟩

/-- a small letter for a capital one, by numbers -/
noncomputable def lowN1 (c : Nat) : Nat := sel (Nat.ble 65 c) (sel (Nat.ble c 90) (Nat.add c 32) c) c
noncomputable def lowN : Nat → Nat → Nat := Nat.rec (fun _ => 0) (fun _ ih a => Nat.add (lowN1 (Nat.mod a 256)) (Nat.mul 256 (ih (Nat.div a 256))))
def lowB (c : UInt8) : UInt8 := if 65 ≤ c.toNat ∧ c.toNat ≤ 90 then c + 32 else c
theorem lowN1_eq (c : Nat) (hc : c < 256) : lowN1 c = (lowB (UInt8.ofNat c)).toNat := by
  have h0 : (UInt8.ofNat c).toNat = c := by rw [UInt8.toNat_ofNat']; exact Nat.mod_eq_of_lt hc
  unfold lowN1 lowB
  rw [h0, sel_ite, sel_ite]
  by_cases h1 : 65 ≤ c
  · rw [if_pos (Nat.ble_eq_true_of_le h1)]
    by_cases h2 : c ≤ 90
    · rw [if_pos (Nat.ble_eq_true_of_le h2), if_pos ⟨h1, h2⟩, UInt8.toNat_add, h0]
      show c + 32 = (c + 32) % 256
      omega
    · rw [if_neg (fun h => h2 (Nat.le_of_ble_eq_true h)), if_neg (fun h => h2 h.2), h0]
  · rw [if_neg (fun h => h1 (Nat.le_of_ble_eq_true h)), if_neg (fun h => h1 h.1), h0]
theorem lowN_bytes : ∀ (n a : Nat), bytesOf n (lowN n a) = (bytesOf n a).map lowB ∧ lowN n a < 256 ^ n := by
  intro n
  induction n with
  | zero => intro a; exact ⟨rfl, by show 0 < 1; decide⟩
  | succ n ih =>
    intro a
    obtain ⟨h1, h2⟩ := ih (a / 256)
    have hm : a % 256 < 256 := Nat.mod_lt _ (by decide)
    have hl := lowN1_eq (a % 256) hm
    have hlt : lowN1 (a % 256) < 256 := by rw [hl]; exact UInt8.toNat_lt _
    have e : lowN (n + 1) a = lowN1 (a % 256) + 256 * lowN n (a / 256) := rfl
    refine ⟨?_, by rw [e, Nat.pow_succ]; omega⟩
    rw [e]
    show UInt8.ofNat ((lowN1 (a % 256) + 256 * lowN n (a / 256)) % 256) :: bytesOf n ((lowN1 (a % 256) + 256 * lowN n (a / 256)) / 256) = _
    rw [show (lowN1 (a % 256) + 256 * lowN n (a / 256)) % 256 = lowN1 (a % 256) by omega, show (lowN1 (a % 256) + 256 * lowN n (a / 256)) / 256 = lowN n (a / 256) by omega, h1, hl]
    simp [bytesOf]
theorem strB_low (n a : Nat) : strB n (lowN n a) = ⟨((strB n a).data.toList.map lowB).toArray⟩ := by
  apply ByteArray.ext
  apply Array.ext'
  rw [strB_data, (lowN_bytes n a).1, strB_data]

noncomputable def orcLow (l : AV) (h : Hp) : CR := onCons (.fail 80) (fun x r => onNil (.fail 80) (onStr (.fail 80) (fun n a => sel (Nat.ble n 35184372088832) (.val (.str n (lowN n a)) h) (.fail 80)) x) r) l
theorem orcLow_ok {P : Program} {f : Nat} (hf : FnOk P f) (hc : ∀ (s : ByteArray) (w : World), s.size ≤ 35184372088832 → Calls P f #[.string s] w fun e w' => e = .returned (.string ⟨(s.data.toList.map lowB).toArray⟩) ∧ Below w.heap.size w w')
    {args : AV} {h : Hp} {x : AV} {h' : Hp} (e : orcLow args h = .val x h') : FnOk P f ∧ CallOk P f args h x h' := by
  refine ⟨hf, fun φ w argv kw hv => ?_⟩
  unfold orcLow at e
  cases args <;> first | (cases e; done) | skip
  rename_i y r
  replace e : onNil (CR.fail 80) (onStr (.fail 80) (fun n a => sel (Nat.ble n 35184372088832) (.val (.str n (lowN n a)) h) (.fail 80)) y) r = .val x h' := e
  cases r <;> first | (cases e; done) | skip
  cases y <;> first | (cases e; done) | skip
  rename_i n a
  replace e : sel (Nat.ble n 35184372088832) (CR.val (.str n (lowN n a)) h) (.fail 80) = .val x h' := e
  cases hb : Nat.ble n 35184372088832 with
  | false => rw [hb] at e; cases e
  | true =>
    rw [hb] at e
    cases e
    obtain ⟨v, vs, hvs, h1, h2⟩ := VL_cons_inv hv
    obtain rfl := VL_nil_inv h2
    obtain ⟨rfl, ha⟩ := h1
    have harg : argv = #[.string (strB n a)] := by apply Array.ext'; rw [hvs]
    rw [harg]
    refine (hc (strB n a) w (by rw [strB_size]; exact Nat.le_of_ble_eq_true hb)).mono ?_
    rintro e w' ⟨rfl, hbl⟩
    exact ⟨_, φ, rfl, ⟨by rw [strB_low], (lowN_bytes n a).2⟩, Stp.below kw hbl⟩
end Go.Exe
