/- ItemNumbers as a law over any numbers and any text. -/
import Derived.Test.YtbaaogkpkgffdaaGreatDoorIN0
import Derived.Test.YtbaaogkpkgffdaaGreatDoorIN1
import Derived.Test.YtbaaogkpkgffdaaGreatDoorAw16
import Derived.Test.YtbaaogkpkgffdaaGreatDoorDe
namespace Go.Exe
open Go Go.RowKit Go.Proofs Go.Proofs.Num
set_option maxRecDepth 100000
theorem fN20 : FnOk Tryz.prog 20 := FnOk_of Tb2.ft_ok (by kernel_rfl)
theorem fN42 : FnOk Tryz.prog 42 := FnOk_of Tb2.ft_ok (by kernel_rfl)
theorem wf_bounds' {k : Int} (h : (Lit.int .i64 k).wf = true) : -9223372036854775808 ≤ k ∧ k ≤ 9223372036854775807 := by
  simp only [Lit.wf, Bool.and_eq_true, decide_eq_true_eq] at h
  have a : IntKind.i64.min = -9223372036854775808 := by decide
  have b : IntKind.i64.max = 9223372036854775807 := by decide
  omega
/-- the number's digits, as the text that Decimal gives -/
abbrev decB (n : Int) : ByteArray := ⟨(decL n).toArray⟩
theorem decB_size (k : Int) (h0 : -9223372036854775808 ≤ k) (h1 : k ≤ 9223372036854775807) : (decB k).size ≤ 22 := by
  obtain ⟨a, b, c, d⟩ := dec_digits k h0 h1
  have : (decB k).size = (decL k).length := rfl
  rw [this]; unfold decL sgL; rw [List.length_append]; split <;> simp <;> omega
theorem data_app (a b : ByteArray) : (a ++ b).data.toList = a.data.toList ++ b.data.toList := by simp
theorem size_app (a b : ByteArray) : (a ++ b).size = a.size + b.size := by simp
section
variable [Env]
theorem decN_ok {k : Int} (h0 : -9223372036854775808 ≤ k) (h1 : k ≤ 9223372036854775807) (e0 : Env.val (.int .i64 0) = .int .i64 k) (e5 : Env.val (.str 1 0) = .string (decB k)) (h : Hp) : CallOk Tryz.prog 20 (.cons (sy 0) .nil) h (sys 1) h := by
  refine callOk_of (fun φ argv w hv => ?_) h
  obtain ⟨u, us, h2, h3, h4⟩ := VL_cons_inv hv
  obtain rfl := VL_nil_inv h4
  have h3 : u = .int .i64 k := (show u = Env.val (.int .i64 0) from h3).trans e0
  subst h3
  obtain rfl : argv = #[.int .i64 k] := by apply Array.ext'; rw [h2]
  refine (Tryz.decimal_walk0 k _ rfl w h0 h1).mono ?_
  rintro e w' ⟨rfl, hb⟩
  exact ⟨_, rfl, fun φ => e5.symm, hb⟩
theorem numN_ok {z : Int} {b : Bool} {i : Int} {S : ByteArray} {j : Nat} (e5 : Env.val (.str j 0) = .string S) (ez : Env.val (.int .i64 i) = .int .i64 z) (hs : S.size ≤ 900) (hv : numV S.data.toList = z) (ho : numOk S.data.toList = b) (h : Hp) : CallOk Tryz.prog 42 (.cons (sys j) .nil) h (.tup (.cons (sy i) (.cons (.bool b) .nil))) h := by
  refine callOk_of (fun φ argv w hv' => ?_) h
  obtain ⟨u, us, h2, h3, h4⟩ := VL_cons_inv hv'
  obtain rfl := VL_nil_inv h4
  have h3 : u = .string S := (show u = Env.val (.str j 0) from h3).trans e5
  subst h3
  obtain rfl : argv = #[.string S] := by apply Array.ext'; rw [h2]
  refine (Tryz.number S w hs).mono ?_
  rintro e w' ⟨rfl, hb⟩
  exact ⟨_, rfl, fun φ => ⟨_, rfl, VL.cons (by rw [hv]; exact ez.symm) (VL.cons (by rw [ho]; rfl) (VL.nil _))⟩, hb⟩
/-- comparisons of a byte -/
theorem u8_ge {P : Program} {t : Nat} {i n m : Int} {b : Bool} (hv : Env.val (.int .u8 i) = .int .u8 n) (hb : decide (m ≤ n) = b) : FactOk P (.bin .geq t, .cons (u8s i) (.cons (.int .u8 m) .nil), .bool b) :=
  binFact (a' := .int .u8 n) (b' := .int .u8 m) (z' := .bool (nB (iblt n m))) (by simp) (by simp) (fun φ u h => (show u = Env.val (.int .u8 i) from h).trans hv) (fun _ _ h => h) rfl fun φ v h => by
    have h : v = .bool (nB (iblt n m)) := h
    rw [h]
    show Value.bool _ = Value.bool b
    rw [← hb, nB_eq, iblt_iff, ← decide_not, decide_eq_decide.2 Int.not_lt]
theorem u8_le {P : Program} {t : Nat} {i n m : Int} {b : Bool} (hv : Env.val (.int .u8 i) = .int .u8 n) (hb : decide (n ≤ m) = b) : FactOk P (.bin .leq t, .cons (u8s i) (.cons (.int .u8 m) .nil), .bool b) :=
  binFact (a' := .int .u8 n) (b' := .int .u8 m) (z' := .bool (nB (iblt m n))) (by simp) (by simp) (fun φ u h => (show u = Env.val (.int .u8 i) from h).trans hv) (fun _ _ h => h) rfl fun φ v h => by
    have h : v = .bool (nB (iblt m n)) := h
    rw [h]
    show Value.bool _ = Value.bool b
    rw [← hb, nB_eq, iblt_iff, ← decide_not, decide_eq_decide.2 Int.not_lt]
theorem sy_ge {P : Program} {t : Nat} {i n m : Int} {b : Bool} (hv : Env.val (.int .i64 i) = .int .i64 n) (hb : decide (m ≤ n) = b) : FactOk P (.bin .geq t, .cons (sy i) (.cons (.int .i64 m) .nil), .bool b) :=
  binFact (a' := .int .i64 n) (b' := .int .i64 m) (z' := .bool (nB (iblt n m))) (by simp) (by simp) (fun φ u h => (show u = Env.val (.int .i64 i) from h).trans hv) (fun _ _ h => h) rfl fun φ v h => by
    have h : v = .bool (nB (iblt n m)) := h
    rw [h]
    show Value.bool _ = Value.bool b
    rw [← hb, nB_eq, iblt_iff, ← decide_not, decide_eq_decide.2 Int.not_lt]
theorem sys_val {j : Nat} {s : ByteArray} (h : Env.val (.str j 0) = .string s) : ∀ φ u, VR φ (sys j) u → u = .string s := fun _ u k => (show u = Env.val (.str j 0) from k).trans h
/-- what is told of the text behind is so -/
theorem factsT_ok {P : Program} (ht : P.underlying 9 = some .string) {tail : ByteArray} {c : Int} {o3 p a b : Bool} {r : List (FK × AV × AV)} (e4 : Env.val (.str 4 0) = .string tail) (e5 : Env.val (.int .i64 5) = .int .i64 tail.size) (e6 : Env.val (.int .u8 6) = .int .u8 c)
    (h3 : decide ((20 : Int) < tail.size) = o3) (hp : decide ((0 : Int) < tail.size) = p) (hc : p = true → ∃ d, tail.data.toList[0]? = some d ∧ c = d.toNat) (ha : decide (48 ≤ c) = a) (hb : decide (c ≤ 57) = b) (hr : ∀ q ∈ r, FactOk P q) : ∀ q ∈ factsT o3 p a b r, FactOk P q := by
  intro q hq
  rcases List.mem_cons.1 hq with rfl | hq
  · exact len_fact ht (sys_val e4) e5
  rcases List.mem_cons.1 hq with rfl | hq
  · exact sy_gt (n := tail.size) e5 h3
  rcases List.mem_cons.1 hq with rfl | hq
  · exact sy_gt (n := tail.size) e5 hp
  cases hpp : p with
  | false => rw [hpp] at hq; exact hr q hq
  | true =>
    rw [hpp] at hq
    obtain ⟨d, hd, hcd⟩ := hc hpp
    rcases List.mem_cons.1 hq with rfl | hq
    · exact index_fact (k := 0) ht (sys_val e4) hd (fun φ => by rw [← hcd]; exact e6.symm)
    rcases List.mem_cons.1 hq with rfl | hq
    · exact u8_ge e6 ha
    rcases List.mem_cons.1 hq with rfl | hq
    · exact u8_le e6 hb
    · exact hr q hq
end
/-- the first byte of a text, or 0 -/
def headC (t : ByteArray) : Int := match t.data.toList[0]? with | some d => d.toNat | none => 0
theorem headC_some (t : ByteArray) (h : decide ((0 : Int) < t.size) = true) : ∃ d, t.data.toList[0]? = some d ∧ headC t = d.toNat := by
  have h := of_decide_eq_true h
  have hl : 0 < t.data.toList.length := by have : t.data.toList.length = t.size := rfl; omega
  refine ⟨t.data.toList[0], List.getElem?_eq_getElem hl, ?_⟩
  unfold headC
  rw [List.getElem?_eq_getElem hl]
theorem u9 : Tryz.prog.underlying 9 = some .string := Tryz.underlying9
/-- within the bounds -/
theorem itemNumbers_in (n : Int) (k : Nat) (plus : Bool) (tail : ByteArray) (x y : AV) (pre preM : ByteArray) (h0 : -9223372036854775808 ≤ n) (h1 : n ≤ 9223372036854775807) (hs : tail.size ≤ 20) (hp : pre.size ≤ 6) (hM : preM.size ≤ 7)
    (hx : ∀ [Env] φ u, VR φ x u → u = .string pre) (hy : ∀ [Env] φ u, VR φ y u → u = .string preM) (hd : decide ((0 : Int) < tail.size) = true → ¬ (48 ≤ headC tail ∧ headC tail ≤ 57))
    (hv : numV (pre ++ decB n ++ tail).data.toList = max (min n 2147483647) (-2147483648)) (hok : numOk (pre ++ decB n ++ tail).data.toList = true) (hno : numOk (preM ++ tail).data.toList = false)
    (r1 : runIN k x y plus (decide (0 ≤ n)) false false false = true) (r2 : runIN k x y plus (decide (0 ≤ n)) true false true = true) (r3 : runIN k x y plus (decide (0 ≤ n)) true true false = true) (W : World) (hW : Asc 0 W) :
    Calls Tryz.prog 11 #[.int .i64 n, .int .i64 k, .bool plus, .string tail] W fun e W' => e = .returned (.bool true) ∧ Below W.heap.size W W' := by
  have hds := decB_size n h0 h1
  letI : Env := envL [.int .i64 n, .string (decB n), .string (pre ++ decB n), .string (pre ++ decB n ++ tail), .string tail, .int .i64 tail.size, .int .u8 (headC tail), .int .i64 (max (min n 2147483647) (-2147483648)), .int .i64 (min n 2147483647), .string (preM ++ tail), .int .i64 0, .int .i64 (numV (preM ++ tail).data.toList)] (by simp [one1])
  have ho : OrcOk Tryz.prog orcIN := by
    intro f g e args h a h' hg
    unfold orcIN at e
    cases b1 : Nat.beq f 20 with
    | true =>
      rw [b1] at e; cases e; rw [Nat.eq_of_beq_eq_true b1]
      refine orcTab_ok fN20 (fun p hp h => ?_) hg
      obtain rfl := List.mem_singleton.1 hp
      exact decN_ok h0 h1 rfl rfl h
    | false =>
      rw [b1] at e
      replace e : sel (Nat.beq f 42) (some (orcTab tabN2)) (sel (Nat.beq f 41) (some (orcOne 0 .nil (.bool true))) none) = some g := e
      cases b2 : Nat.beq f 42 with
      | true =>
        rw [b2] at e; cases e; rw [Nat.eq_of_beq_eq_true b2]
        refine orcTab_ok fN42 (fun p hp h => ?_) hg
        rcases List.mem_cons.1 hp with rfl | hp
        · exact numN_ok (S := pre ++ decB n ++ tail) (z := max (min n 2147483647) (-2147483648)) rfl rfl (by rw [size_app, size_app]; omega) hv hok h
        · obtain rfl := List.mem_singleton.1 hp
          exact numN_ok (S := preM ++ tail) (z := numV (preM ++ tail).data.toList) rfl rfl (by rw [size_app]; omega) rfl hno h
      | false =>
        rw [b2] at e
        replace e : sel (Nat.beq f 41) (some (orcOne 0 .nil (.bool true))) none = some g := e
        cases b3 : Nat.beq f 41 with
        | true => rw [b3] at e; cases e; rw [Nat.eq_of_beq_eq_true b3]; exact awk16 hg
        | false => rw [b3] at e; cases e
  have hB : ∀ q ∈ factsB x y (decide (0 ≤ n)), FactOk Tryz.prog q := by
    intro q hq
    rcases List.mem_cons.1 hq with rfl | hq
    · exact sy_ge (n := n) rfl rfl
    rcases List.mem_cons.1 hq with rfl | hq
    · exact cat_fact (a := pre) (b := decB n) hx (sys_val rfl) (fun φ => rfl) (by omega)
    rcases List.mem_cons.1 hq with rfl | hq
    · exact cat_fact (a := pre ++ decB n) (b := tail) (sys_val rfl) (sys_val rfl) (fun φ => rfl) (by rw [size_app]; omega)
    rcases List.mem_cons.1 hq with rfl | hq
    · exact cat_fact (a := preM) (b := tail) hy (sys_val rfl) (fun φ => rfl) (by omega)
    rcases List.mem_cons.1 hq with rfl | hq
    · exact min_fact (n := n) (z := min n 2147483647) rfl rfl rfl
    · obtain rfl := List.mem_singleton.1 hq
      exact max_fact (n := min n 2147483647) (z := max (min n 2147483647) (-2147483648)) rfl rfl rfl
  obtain ⟨p, hpp⟩ : ∃ p, decide ((0 : Int) < tail.size) = p := ⟨_, rfl⟩
  obtain ⟨a, haa⟩ : ∃ p, decide (48 ≤ headC tail) = p := ⟨_, rfl⟩
  obtain ⟨b, hbb⟩ : ∃ p, decide (headC tail ≤ 57) = p := ⟨_, rfl⟩
  have hF : FactsOk Tryz.prog (facts (factsT false p a b (factsB x y (decide (0 ≤ n))))) := facts_ok (factsT_ok (tail := tail) (c := headC tail) u9 rfl rfl rfl (decide_eq_false (by omega)) hpp (fun h => headC_some tail (hpp.trans h)) haa hbb hB)
  have hrun : runIN k x y plus (decide (0 ≤ n)) p a b = true := by
    cases p with
    | false => exact r1
    | true =>
      have hd := hd hpp
      cases a with
      | false =>
        cases b with
        | true => exact r2
        | false => have := of_decide_eq_false haa; have := of_decide_eq_false hbb; omega
      | true =>
        cases b with
        | false => exact r3
        | true => exact absurd ⟨of_decide_eq_true haa, of_decide_eq_true hbb⟩ hd
  exact (run_true (callAt_sound (tt := ⟨Tb2.tt.t, facts _⟩) ⟨Tb2.tt_ok.ty, hF⟩ hm2 (FTok_F _ Tb2.ft_ok) ho 60) (g := 0) (by decide) hrun hW (VL.cons rfl (VL.cons rfl (VL.cons rfl (VL.cons rfl (VL.nil _)))))).2

/-! ### the texts -/
def blL (k : Nat) : List UInt8 := ([32, 32, 9, 32, 10] : List UInt8).take k
def plusL (q : Bool) : List UInt8 := cond q [43] []
theorem blL_w (k : Nat) : ∀ c ∈ blL k, isW c = true := fun c hc => by
  have h := List.mem_of_mem_take hc
  revert h
  simp only [List.mem_cons, List.not_mem_nil, or_false]
  rintro (rfl | rfl | rfl | rfl | rfl) <;> rfl
theorem blL_len (k : Nat) (hk : k ≤ 5) : (blL k).length = k := by unfold blL; rw [List.length_take]; simp; omega
theorem tail_head {tail : ByteArray} (hd : decide ((0 : Int) < tail.size) = true → ¬ (48 ≤ headC tail ∧ headC tail ≤ 57)) : ∀ c, tail.data.toList.head? = some c → isD c = false := by
  intro c hc
  have hl : 0 < tail.data.toList.length := by
    cases h : tail.data.toList with
    | nil => rw [h] at hc; cases hc
    | cons x l => simp
  have hsz : tail.data.toList.length = tail.size := rfl
  have h := hd (decide_eq_true (by omega))
  have h0 : tail.data.toList[0]? = some c := by rw [← List.head?_eq_getElem?]; exact hc
  have hh : headC tail = c.toNat := by unfold headC; rw [h0]
  rw [hh] at h
  unfold isD
  rw [Bool.and_eq_false_iff]
  simp only [decide_eq_false_iff_not]
  omega
theorem txt_ok (n : Int) (k : Nat) (q : Bool) (tl : List UInt8) (h0 : -9223372036854775808 ≤ n) (h1 : n ≤ 9223372036854775807) (hq : q = true → 0 ≤ n) (htl : ∀ c, tl.head? = some c → isD c = false) :
    numV (blL k ++ plusL q ++ decL n ++ tl) = max (min n 2147483647) (-2147483648) ∧ numOk (blL k ++ plusL q ++ decL n ++ tl) = true := by
  obtain ⟨a, b, _, _⟩ := dec_digits n h0 h1
  have hsg : sgL n = [] ∨ sgL n = [43] ∨ sgL n = [45] := by unfold sgL; split; exact .inr (.inr rfl); exact .inl rfl
  cases q with
  | false =>
    obtain ⟨p1, p2⟩ := num_parts (bl := blL k) (sg := sgL n) (ds := decGo 21 n.natAbs []) (tl := tl) (blL_w k) hsg a htl (fun _ => b)
    have e : blL k ++ plusL false ++ decL n ++ tl = blL k ++ (sgL n ++ (decGo 21 n.natAbs [] ++ tl)) := by simp [plusL, decL]
    rw [e]
    exact ⟨p1.trans (intF_dec n h0 h1), p2.trans (decide_eq_true b)⟩
  | true =>
    have hs : sgL n = [] := by unfold sgL; rw [if_neg (by have := hq rfl; omega)]
    obtain ⟨p1, p2⟩ := num_parts (bl := blL k) (sg := [43]) (ds := decGo 21 n.natAbs []) (tl := tl) (blL_w k) (.inr (.inl rfl)) a htl (fun _ => b)
    have e : blL k ++ plusL true ++ decL n ++ tl = blL k ++ ([43] ++ (decGo 21 n.natAbs [] ++ tl)) := by simp [plusL, decL, hs]
    rw [e]
    have i := intF_dec n h0 h1
    rw [hs] at i
    exact ⟨p1.trans i, p2.trans (decide_eq_true b)⟩
theorem txt_no (k : Nat) (q : Bool) (tl : List UInt8) (htl : ∀ c, tl.head? = some c → isD c = false) : numOk (blL k ++ plusL q ++ [45] ++ tl) = false := by
  cases q with
  | false =>
    obtain ⟨_, p2⟩ := num_parts (bl := blL k) (sg := [45]) (ds := []) (tl := tl) (blL_w k) (.inr (.inr rfl)) (fun c hc => by cases hc) htl (fun h => by cases h)
    have e : blL k ++ plusL false ++ [45] ++ tl = blL k ++ ([45] ++ ([] ++ tl)) := by simp [plusL]
    rw [e]; exact p2.trans (by decide)
  | true =>
    obtain ⟨_, p2⟩ := num_parts (bl := blL k) (sg := [43]) (ds := []) (tl := [45] ++ tl) (blL_w k) (.inr (.inl rfl)) (fun c hc => by cases hc) (fun c hc => by
      obtain rfl : (45 : UInt8) = c := by simpa using hc
      rfl) (fun h => by cases h)
    have e : blL k ++ plusL true ++ [45] ++ tl = blL k ++ ([43] ++ ([] ++ ([45] ++ tl))) := by simp [plusL]
    rw [e]; exact p2.trans (by decide)
abbrev preB (k : Nat) (q : Bool) : ByteArray := ⟨(blL k ++ plusL q).toArray⟩
abbrev preM (k : Nat) (q : Bool) : ByteArray := ⟨(blL k ++ plusL q ++ [45]).toArray⟩
theorem str_inv' [Env] {φ : PM} {n a : Nat} {u : Value} {b : ByteArray} (h : VR φ (.str n a) u) (hb : strB n a = b) : u = .string b := by
  obtain ⟨rfl, _⟩ := h
  rw [hb]
theorem itemNumbers_k (n : Int) (k : Nat) (hk : k ≤ 5) (plus q : Bool) (tail : ByteArray) (N A M B : Nat) (h0 : -9223372036854775808 ≤ n) (h1 : n ≤ 9223372036854775807) (hs : tail.size ≤ 20) (hq : q = true → 0 ≤ n)
    (hx : strB N A = preB k q) (hy : strB M B = preM k q) (hd : decide ((0 : Int) < tail.size) = true → ¬ (48 ≤ headC tail ∧ headC tail ≤ 57))
    (r1 : runIN k (.str N A) (.str M B) plus (decide (0 ≤ n)) false false false = true) (r2 : runIN k (.str N A) (.str M B) plus (decide (0 ≤ n)) true false true = true) (r3 : runIN k (.str N A) (.str M B) plus (decide (0 ≤ n)) true true false = true) (W : World) (hW : Asc 0 W) :
    Calls Tryz.prog 11 #[.int .i64 n, .int .i64 k, .bool plus, .string tail] W fun e W' => e = .returned (.bool true) ∧ Below W.heap.size W W' := by
  have ht := tail_head hd
  have l1 : (preB k q).size = (blL k ++ plusL q).length := rfl
  have l2 : (preM k q).size = (blL k ++ plusL q ++ [45]).length := rfl
  have l3 := blL_len k hk
  have l4 : (plusL q).length ≤ 1 := by cases q <;> decide
  obtain ⟨v1, v2⟩ := txt_ok n k q tail.data.toList h0 h1 hq ht
  have v3 := txt_no k q tail.data.toList ht
  exact itemNumbers_in n k plus tail (.str N A) (.str M B) (preB k q) (preM k q) h0 h1 hs (by rw [l1, List.length_append]; omega) (by rw [l2, List.length_append, List.length_append]; simp only [List.length_singleton]; omega) (fun φ u h => str_inv' h hx) (fun φ u h => str_inv' h hy) hd
    (by rw [data_app, data_app]; exact v1) (by rw [data_app, data_app]; exact v2) (by rw [data_app]; exact v3) r1 r2 r3 W hW
/-- out of the bounds -/
theorem itemNumbers_out (n z : Int) (plus : Bool) (tail : ByteArray) (o1 o2 o3 p a b : Bool) (e1 : decide (z < 0) = o1) (e2 : decide (5 < z) = o2) (e3 : decide ((20 : Int) < tail.size) = o3) (e4 : decide ((0 : Int) < tail.size) = p)
    (e5 : decide (48 ≤ headC tail) = a) (e6 : decide (headC tail ≤ 57) = b) (hrun : runIO o1 o2 o3 p a b plus = true) (W : World) (hW : Asc 0 W) :
    Calls Tryz.prog 11 #[.int .i64 n, .int .i64 z, .bool plus, .string tail] W fun e W' => e = .returned (.bool true) ∧ Below W.heap.size W W' := by
  letI : Env := envL [.int .i64 n, .int .i64 0, .int .i64 0, .int .i64 0, .string tail, .int .i64 tail.size, .int .u8 (headC tail), .int .i64 0, .int .i64 0, .int .i64 0, .int .i64 z] (by simp [one1])
  have ho : OrcOk Tryz.prog orcA16 := by
    intro f g e args h a h' hg
    unfold orcA16 at e
    cases b3 : Nat.beq f 41 with
    | true => rw [b3] at e; cases e; rw [Nat.eq_of_beq_eq_true b3]; exact awk16 hg
    | false => rw [b3] at e; cases e
  have hF : FactsOk Tryz.prog (facts (.cons (.bin .lss 3, .cons (sy 10) (.cons (.int .i64 0) .nil), .bool o1) (.cons (.bin .gtr 3, .cons (sy 10) (.cons (.int .i64 5) .nil), .bool o2) (factsT o3 p a b .nil)))) := facts_ok fun q hq => by
    rcases List.mem_cons.1 hq with rfl | hq
    · exact sy_lt (n := z) rfl e1
    rcases List.mem_cons.1 hq with rfl | hq
    · exact sy_gt (n := z) rfl e2
    · exact factsT_ok (tail := tail) (c := headC tail) u9 rfl rfl rfl e3 e4 (fun h => headC_some tail (e4.trans h)) e5 e6 (fun q hq => by cases hq) q hq
  exact (run_true (callAt_sound (tt := ⟨Tb2.tt.t, facts _⟩) ⟨Tb2.tt_ok.ty, hF⟩ hm2 (FTok_F _ Tb2.ft_ok) ho 60) (g := 0) (by decide) hrun hW (VL.cons rfl (VL.cons rfl (VL.cons rfl (VL.cons rfl (VL.nil _)))))).2
theorem runIO_all (o1 o2 o3 p a b plus : Bool) (h12 : (o1 && o2) = false) (hp : p = false → o3 = false) (hab : (a || b) = true) (h : (o1 || o2 || o3 || (p && a && b)) = true) : ∃ a' b', runIO o1 o2 o3 p a' b' plus = true ∧ (p = true → a' = a ∧ b' = b) := by
  cases p <;> cases o1 <;> cases o2 <;> cases o3 <;> cases a <;> cases b <;> cases plus
  · exact absurd h (by decide)
  · exact absurd h (by decide)
  · exact absurd h (by decide)
  · exact absurd h (by decide)
  · exact absurd h (by decide)
  · exact absurd h (by decide)
  · exact absurd h (by decide)
  · exact absurd h (by decide)
  · exact absurd hab (by decide)
  · exact absurd hab (by decide)
  · exact absurd (hp rfl) (by decide)
  · exact absurd (hp rfl) (by decide)
  · exact absurd (hp rfl) (by decide)
  · exact absurd (hp rfl) (by decide)
  · exact absurd (hp rfl) (by decide)
  · exact absurd (hp rfl) (by decide)
  · exact absurd hab (by decide)
  · exact absurd hab (by decide)
  · exact ⟨false, false, runIO_false_true_false_false_false_false_false, fun h => absurd h (by decide)⟩
  · exact ⟨false, false, runIO_false_true_false_false_false_false_true, fun h => absurd h (by decide)⟩
  · exact ⟨false, false, runIO_false_true_false_false_false_false_false, fun h => absurd h (by decide)⟩
  · exact ⟨false, false, runIO_false_true_false_false_false_false_true, fun h => absurd h (by decide)⟩
  · exact ⟨false, false, runIO_false_true_false_false_false_false_false, fun h => absurd h (by decide)⟩
  · exact ⟨false, false, runIO_false_true_false_false_false_false_true, fun h => absurd h (by decide)⟩
  · exact absurd hab (by decide)
  · exact absurd hab (by decide)
  · exact absurd (hp rfl) (by decide)
  · exact absurd (hp rfl) (by decide)
  · exact absurd (hp rfl) (by decide)
  · exact absurd (hp rfl) (by decide)
  · exact absurd (hp rfl) (by decide)
  · exact absurd (hp rfl) (by decide)
  · exact absurd hab (by decide)
  · exact absurd hab (by decide)
  · exact ⟨false, false, runIO_true_false_false_false_false_false_false, fun h => absurd h (by decide)⟩
  · exact ⟨false, false, runIO_true_false_false_false_false_false_true, fun h => absurd h (by decide)⟩
  · exact ⟨false, false, runIO_true_false_false_false_false_false_false, fun h => absurd h (by decide)⟩
  · exact ⟨false, false, runIO_true_false_false_false_false_false_true, fun h => absurd h (by decide)⟩
  · exact ⟨false, false, runIO_true_false_false_false_false_false_false, fun h => absurd h (by decide)⟩
  · exact ⟨false, false, runIO_true_false_false_false_false_false_true, fun h => absurd h (by decide)⟩
  · exact absurd hab (by decide)
  · exact absurd hab (by decide)
  · exact absurd (hp rfl) (by decide)
  · exact absurd (hp rfl) (by decide)
  · exact absurd (hp rfl) (by decide)
  · exact absurd (hp rfl) (by decide)
  · exact absurd (hp rfl) (by decide)
  · exact absurd (hp rfl) (by decide)
  · exact absurd h12 (by decide)
  · exact absurd h12 (by decide)
  · exact absurd h12 (by decide)
  · exact absurd h12 (by decide)
  · exact absurd h12 (by decide)
  · exact absurd h12 (by decide)
  · exact absurd h12 (by decide)
  · exact absurd h12 (by decide)
  · exact absurd h12 (by decide)
  · exact absurd h12 (by decide)
  · exact absurd h12 (by decide)
  · exact absurd h12 (by decide)
  · exact absurd h12 (by decide)
  · exact absurd h12 (by decide)
  · exact absurd h12 (by decide)
  · exact absurd h12 (by decide)
  · exact absurd h (by decide)
  · exact absurd h (by decide)
  · exact absurd h (by decide)
  · exact absurd h (by decide)
  · exact absurd h (by decide)
  · exact absurd h (by decide)
  · exact ⟨_, _, runIO_false_false_false_true_true_true_false, fun _ => ⟨rfl, rfl⟩⟩
  · exact ⟨_, _, runIO_false_false_false_true_true_true_true, fun _ => ⟨rfl, rfl⟩⟩
  · exact absurd hab (by decide)
  · exact absurd hab (by decide)
  · exact ⟨_, _, runIO_false_false_true_true_false_true_false, fun _ => ⟨rfl, rfl⟩⟩
  · exact ⟨_, _, runIO_false_false_true_true_false_true_true, fun _ => ⟨rfl, rfl⟩⟩
  · exact ⟨_, _, runIO_false_false_true_true_true_false_false, fun _ => ⟨rfl, rfl⟩⟩
  · exact ⟨_, _, runIO_false_false_true_true_true_false_true, fun _ => ⟨rfl, rfl⟩⟩
  · exact ⟨_, _, runIO_false_false_true_true_true_true_false, fun _ => ⟨rfl, rfl⟩⟩
  · exact ⟨_, _, runIO_false_false_true_true_true_true_true, fun _ => ⟨rfl, rfl⟩⟩
  · exact absurd hab (by decide)
  · exact absurd hab (by decide)
  · exact ⟨_, _, runIO_false_true_false_true_false_true_false, fun _ => ⟨rfl, rfl⟩⟩
  · exact ⟨_, _, runIO_false_true_false_true_false_true_true, fun _ => ⟨rfl, rfl⟩⟩
  · exact ⟨_, _, runIO_false_true_false_true_true_false_false, fun _ => ⟨rfl, rfl⟩⟩
  · exact ⟨_, _, runIO_false_true_false_true_true_false_true, fun _ => ⟨rfl, rfl⟩⟩
  · exact ⟨_, _, runIO_false_true_false_true_true_true_false, fun _ => ⟨rfl, rfl⟩⟩
  · exact ⟨_, _, runIO_false_true_false_true_true_true_true, fun _ => ⟨rfl, rfl⟩⟩
  · exact absurd hab (by decide)
  · exact absurd hab (by decide)
  · exact ⟨_, _, runIO_false_true_true_true_false_true_false, fun _ => ⟨rfl, rfl⟩⟩
  · exact ⟨_, _, runIO_false_true_true_true_false_true_true, fun _ => ⟨rfl, rfl⟩⟩
  · exact ⟨_, _, runIO_false_true_true_true_true_false_false, fun _ => ⟨rfl, rfl⟩⟩
  · exact ⟨_, _, runIO_false_true_true_true_true_false_true, fun _ => ⟨rfl, rfl⟩⟩
  · exact ⟨_, _, runIO_false_true_true_true_true_true_false, fun _ => ⟨rfl, rfl⟩⟩
  · exact ⟨_, _, runIO_false_true_true_true_true_true_true, fun _ => ⟨rfl, rfl⟩⟩
  · exact absurd hab (by decide)
  · exact absurd hab (by decide)
  · exact ⟨_, _, runIO_true_false_false_true_false_true_false, fun _ => ⟨rfl, rfl⟩⟩
  · exact ⟨_, _, runIO_true_false_false_true_false_true_true, fun _ => ⟨rfl, rfl⟩⟩
  · exact ⟨_, _, runIO_true_false_false_true_true_false_false, fun _ => ⟨rfl, rfl⟩⟩
  · exact ⟨_, _, runIO_true_false_false_true_true_false_true, fun _ => ⟨rfl, rfl⟩⟩
  · exact ⟨_, _, runIO_true_false_false_true_true_true_false, fun _ => ⟨rfl, rfl⟩⟩
  · exact ⟨_, _, runIO_true_false_false_true_true_true_true, fun _ => ⟨rfl, rfl⟩⟩
  · exact absurd hab (by decide)
  · exact absurd hab (by decide)
  · exact ⟨_, _, runIO_true_false_true_true_false_true_false, fun _ => ⟨rfl, rfl⟩⟩
  · exact ⟨_, _, runIO_true_false_true_true_false_true_true, fun _ => ⟨rfl, rfl⟩⟩
  · exact ⟨_, _, runIO_true_false_true_true_true_false_false, fun _ => ⟨rfl, rfl⟩⟩
  · exact ⟨_, _, runIO_true_false_true_true_true_false_true, fun _ => ⟨rfl, rfl⟩⟩
  · exact ⟨_, _, runIO_true_false_true_true_true_true_false, fun _ => ⟨rfl, rfl⟩⟩
  · exact ⟨_, _, runIO_true_false_true_true_true_true_true, fun _ => ⟨rfl, rfl⟩⟩
  · exact absurd h12 (by decide)
  · exact absurd h12 (by decide)
  · exact absurd h12 (by decide)
  · exact absurd h12 (by decide)
  · exact absurd h12 (by decide)
  · exact absurd h12 (by decide)
  · exact absurd h12 (by decide)
  · exact absurd h12 (by decide)
  · exact absurd h12 (by decide)
  · exact absurd h12 (by decide)
  · exact absurd h12 (by decide)
  · exact absurd h12 (by decide)
  · exact absurd h12 (by decide)
  · exact absurd h12 (by decide)
  · exact absurd h12 (by decide)
  · exact absurd h12 (by decide)
/-- **ItemNumbers answers true** -/
theorem itemNumbers_law (n z : Int) (plus : Bool) (tail : ByteArray) (W : World) (hW : Asc 0 W) (hn : (Lit.int .i64 n).wf = true) (_ : (Lit.int .i64 z).wf = true) :
    Calls Tryz.prog 11 #[.int .i64 n, .int .i64 z, .bool plus, .string tail] W fun e W' => e = .returned (.bool true) ∧ Below W.heap.size W W' := by
  obtain ⟨h0, h1⟩ := wf_bounds' hn
  by_cases hin : z < 0 ∨ 5 < z ∨ (20 : Int) < tail.size ∨ (decide ((0 : Int) < tail.size) = true ∧ 48 ≤ headC tail ∧ headC tail ≤ 57)
  · obtain ⟨o1, e1⟩ : ∃ x, decide (z < 0) = x := ⟨_, rfl⟩
    obtain ⟨o2, e2⟩ : ∃ x, decide (5 < z) = x := ⟨_, rfl⟩
    obtain ⟨o3, e3⟩ : ∃ x, decide ((20 : Int) < tail.size) = x := ⟨_, rfl⟩
    obtain ⟨p, e4⟩ : ∃ x, decide ((0 : Int) < tail.size) = x := ⟨_, rfl⟩
    obtain ⟨a, e5⟩ : ∃ x, decide (48 ≤ headC tail) = x := ⟨_, rfl⟩
    obtain ⟨b, e6⟩ : ∃ x, decide (headC tail ≤ 57) = x := ⟨_, rfl⟩
    have h12 : (o1 && o2) = false := by rw [← e1, ← e2, Bool.and_eq_false_iff]; simp only [decide_eq_false_iff_not]; omega
    have hp : p = false → o3 = false := fun h => by rw [h] at e4; rw [← e3]; have := of_decide_eq_false e4; exact decide_eq_false (by omega)
    have hab : (a || b) = true := by rw [← e5, ← e6, Bool.or_eq_true]; simp only [decide_eq_true_iff]; omega
    have h : (o1 || o2 || o3 || (p && a && b)) = true := by
      rw [e4] at hin
      rw [← e1, ← e2, ← e3, ← e5, ← e6]
      simp only [Bool.or_eq_true, Bool.and_eq_true, decide_eq_true_iff]
      rcases hin with h | h | h | ⟨h, h', h''⟩
      · exact .inl (.inl (.inl h))
      · exact .inl (.inl (.inr h))
      · exact .inl (.inr h)
      · exact .inr ⟨⟨h, h'⟩, h''⟩
    obtain ⟨a', b', hrun, hsame⟩ := runIO_all o1 o2 o3 p a b plus h12 hp hab h
    cases p with
    | true =>
      obtain ⟨rfl, rfl⟩ := hsame rfl
      exact itemNumbers_out n z plus tail _ _ _ _ _ _ e1 e2 e3 e4 e5 e6 hrun W hW
    | false =>
      have hF0 : runIO o1 o2 o3 false a b plus = true := hrun
      exact itemNumbers_out n z plus tail _ _ _ _ _ _ e1 e2 e3 e4 e5 e6 hF0 W hW
  · obtain ⟨k, rfl⟩ : ∃ k : Nat, z = k := ⟨z.toNat, by omega⟩
    have hk : k ≤ 5 := by omega
    have hs : tail.size ≤ 20 := by omega
    have hd : decide ((0 : Int) < tail.size) = true → ¬ (48 ≤ headC tail ∧ headC tail ≤ 57) := fun h h' => hin (.inr (.inr (.inr ⟨h, h'⟩)))
    obtain ⟨g, hg⟩ : ∃ g, decide (0 ≤ n) = g := ⟨_, rfl⟩
    have hgt : g = true → 0 ≤ n := fun h => of_decide_eq_true (hg.trans h)
    clear hin
    rcases k with _ | _ | _ | _ | _ | _ | k
    · cases plus <;> cases g
      · exact itemNumbers_k n 0 (by omega) false false tail 0 0 1 45 h0 h1 hs (fun h => by cases h) (by kernel_rfl) (by kernel_rfl) hd (by rw [hg]; exact runIN_0_false_false_false_false) (by rw [hg]; exact runIN_0_false_false_true_false) (by rw [hg]; exact runIN_0_false_false_true_true) W hW
      · exact itemNumbers_k n 0 (by omega) false false tail 0 0 1 45 h0 h1 hs (fun h => by cases h) (by kernel_rfl) (by kernel_rfl) hd (by rw [hg]; exact runIN_0_false_true_false_false) (by rw [hg]; exact runIN_0_false_true_true_false) (by rw [hg]; exact runIN_0_false_true_true_true) W hW
      · exact itemNumbers_k n 0 (by omega) true false tail 0 0 1 45 h0 h1 hs (fun h => by cases h) (by kernel_rfl) (by kernel_rfl) hd (by rw [hg]; exact runIN_0_true_false_false_false) (by rw [hg]; exact runIN_0_true_false_true_false) (by rw [hg]; exact runIN_0_true_false_true_true) W hW
      · exact itemNumbers_k n 0 (by omega) true true tail 1 43 2 11563 h0 h1 hs (fun h => hgt h) (by kernel_rfl) (by kernel_rfl) hd (by rw [hg]; exact runIN_0_true_true_false_false) (by rw [hg]; exact runIN_0_true_true_true_false) (by rw [hg]; exact runIN_0_true_true_true_true) W hW
    · cases plus <;> cases g
      · exact itemNumbers_k n 1 (by omega) false false tail 1 32 2 11552 h0 h1 hs (fun h => by cases h) (by kernel_rfl) (by kernel_rfl) hd (by rw [hg]; exact runIN_1_false_false_false_false) (by rw [hg]; exact runIN_1_false_false_true_false) (by rw [hg]; exact runIN_1_false_false_true_true) W hW
      · exact itemNumbers_k n 1 (by omega) false false tail 1 32 2 11552 h0 h1 hs (fun h => by cases h) (by kernel_rfl) (by kernel_rfl) hd (by rw [hg]; exact runIN_1_false_true_false_false) (by rw [hg]; exact runIN_1_false_true_true_false) (by rw [hg]; exact runIN_1_false_true_true_true) W hW
      · exact itemNumbers_k n 1 (by omega) true false tail 1 32 2 11552 h0 h1 hs (fun h => by cases h) (by kernel_rfl) (by kernel_rfl) hd (by rw [hg]; exact runIN_1_true_false_false_false) (by rw [hg]; exact runIN_1_true_false_true_false) (by rw [hg]; exact runIN_1_true_false_true_true) W hW
      · exact itemNumbers_k n 1 (by omega) true true tail 2 11040 3 2960160 h0 h1 hs (fun h => hgt h) (by kernel_rfl) (by kernel_rfl) hd (by rw [hg]; exact runIN_1_true_true_false_false) (by rw [hg]; exact runIN_1_true_true_true_false) (by rw [hg]; exact runIN_1_true_true_true_true) W hW
    · cases plus <;> cases g
      · exact itemNumbers_k n 2 (by omega) false false tail 2 8224 3 2957344 h0 h1 hs (fun h => by cases h) (by kernel_rfl) (by kernel_rfl) hd (by rw [hg]; exact runIN_2_false_false_false_false) (by rw [hg]; exact runIN_2_false_false_true_false) (by rw [hg]; exact runIN_2_false_false_true_true) W hW
      · exact itemNumbers_k n 2 (by omega) false false tail 2 8224 3 2957344 h0 h1 hs (fun h => by cases h) (by kernel_rfl) (by kernel_rfl) hd (by rw [hg]; exact runIN_2_false_true_false_false) (by rw [hg]; exact runIN_2_false_true_true_false) (by rw [hg]; exact runIN_2_false_true_true_true) W hW
      · exact itemNumbers_k n 2 (by omega) true false tail 2 8224 3 2957344 h0 h1 hs (fun h => by cases h) (by kernel_rfl) (by kernel_rfl) hd (by rw [hg]; exact runIN_2_true_false_false_false) (by rw [hg]; exact runIN_2_true_false_true_false) (by rw [hg]; exact runIN_2_true_false_true_true) W hW
      · exact itemNumbers_k n 2 (by omega) true true tail 3 2826272 4 757800992 h0 h1 hs (fun h => hgt h) (by kernel_rfl) (by kernel_rfl) hd (by rw [hg]; exact runIN_2_true_true_false_false) (by rw [hg]; exact runIN_2_true_true_true_false) (by rw [hg]; exact runIN_2_true_true_true_true) W hW
    · cases plus <;> cases g
      · exact itemNumbers_k n 3 (by omega) false false tail 3 598048 4 755572768 h0 h1 hs (fun h => by cases h) (by kernel_rfl) (by kernel_rfl) hd (by rw [hg]; exact runIN_3_false_false_false_false) (by rw [hg]; exact runIN_3_false_false_true_false) (by rw [hg]; exact runIN_3_false_false_true_true) W hW
      · exact itemNumbers_k n 3 (by omega) false false tail 3 598048 4 755572768 h0 h1 hs (fun h => by cases h) (by kernel_rfl) (by kernel_rfl) hd (by rw [hg]; exact runIN_3_false_true_false_false) (by rw [hg]; exact runIN_3_false_true_true_false) (by rw [hg]; exact runIN_3_false_true_true_true) W hW
      · exact itemNumbers_k n 3 (by omega) true false tail 3 598048 4 755572768 h0 h1 hs (fun h => by cases h) (by kernel_rfl) (by kernel_rfl) hd (by rw [hg]; exact runIN_3_true_false_false_false) (by rw [hg]; exact runIN_3_true_false_true_false) (by rw [hg]; exact runIN_3_true_false_true_true) W hW
      · exact itemNumbers_k n 3 (by omega) true true tail 4 722018336 5 193995546656 h0 h1 hs (fun h => hgt h) (by kernel_rfl) (by kernel_rfl) hd (by rw [hg]; exact runIN_3_true_true_false_false) (by rw [hg]; exact runIN_3_true_true_true_false) (by rw [hg]; exact runIN_3_true_true_true_true) W hW
    · cases plus <;> cases g
      · exact itemNumbers_k n 4 (by omega) false false tail 4 537468960 5 193810997280 h0 h1 hs (fun h => by cases h) (by kernel_rfl) (by kernel_rfl) hd (by rw [hg]; exact runIN_4_false_false_false_false) (by rw [hg]; exact runIN_4_false_false_true_false) (by rw [hg]; exact runIN_4_false_false_true_true) W hW
      · exact itemNumbers_k n 4 (by omega) false false tail 4 537468960 5 193810997280 h0 h1 hs (fun h => by cases h) (by kernel_rfl) (by kernel_rfl) hd (by rw [hg]; exact runIN_4_false_true_false_false) (by rw [hg]; exact runIN_4_false_true_true_false) (by rw [hg]; exact runIN_4_false_true_true_true) W hW
      · exact itemNumbers_k n 4 (by omega) true false tail 4 537468960 5 193810997280 h0 h1 hs (fun h => by cases h) (by kernel_rfl) (by kernel_rfl) hd (by rw [hg]; exact runIN_4_true_false_false_false) (by rw [hg]; exact runIN_4_true_false_true_false) (by rw [hg]; exact runIN_4_true_false_true_true) W hW
      · exact itemNumbers_k n 4 (by omega) true true tail 5 185221062688 6 49663244312608 h0 h1 hs (fun h => hgt h) (by kernel_rfl) (by kernel_rfl) hd (by rw [hg]; exact runIN_4_true_true_false_false) (by rw [hg]; exact runIN_4_true_true_true_false) (by rw [hg]; exact runIN_4_true_true_true_true) W hW
    · cases plus <;> cases g
      · exact itemNumbers_k n 5 (by omega) false false tail 5 43487141920 6 49521510391840 h0 h1 hs (fun h => by cases h) (by kernel_rfl) (by kernel_rfl) hd (by rw [hg]; exact runIN_5_false_false_false_false) (by rw [hg]; exact runIN_5_false_false_true_false) (by rw [hg]; exact runIN_5_false_false_true_true) W hW
      · exact itemNumbers_k n 5 (by omega) false false tail 5 43487141920 6 49521510391840 h0 h1 hs (fun h => by cases h) (by kernel_rfl) (by kernel_rfl) hd (by rw [hg]; exact runIN_5_false_true_false_false) (by rw [hg]; exact runIN_5_false_true_true_false) (by rw [hg]; exact runIN_5_false_true_true_true) W hW
      · exact itemNumbers_k n 5 (by omega) true false tail 5 43487141920 6 49521510391840 h0 h1 hs (fun h => by cases h) (by kernel_rfl) (by kernel_rfl) hd (by rw [hg]; exact runIN_5_true_false_false_false) (by rw [hg]; exact runIN_5_true_false_true_false) (by rw [hg]; exact runIN_5_true_false_true_true) W hW
      · exact itemNumbers_k n 5 (by omega) true true tail 6 47322487136288 7 12713696439115808 h0 h1 hs (fun h => hgt h) (by kernel_rfl) (by kernel_rfl) hd (by rw [hg]; exact runIN_5_true_true_false_false) (by rw [hg]; exact runIN_5_true_true_true_false) (by rw [hg]; exact runIN_5_true_true_true_true) W hW
    · omega
end Go.Exe
