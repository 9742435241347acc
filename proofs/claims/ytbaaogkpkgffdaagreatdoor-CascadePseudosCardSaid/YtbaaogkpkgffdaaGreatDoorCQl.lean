/- A part of an executor of the model over abstract values, and what it tells of the calls. -/
import Derived.Test.YtbaaogkpkgffdaaGreatDoorCQ0
import Derived.Test.YtbaaogkpkgffdaaGreatDoorCQ1
import Derived.Test.YtbaaogkpkgffdaaGreatDoorCQ2
import Derived.Test.YtbaaogkpkgffdaaGreatDoorAw13
namespace Go.Exe
open Go Go.RowKit Go.Proofs
theorem runCQ_all (r0 : Nat) (h0 : r0 < 6) : runCQ r0 = true := by
  rcases r0 with _ | _ | _ | _ | _ | _ | r0
  · exact runCQ_0
  · exact runCQ_1
  · exact runCQ_2
  · exact runCQ_3
  · exact runCQ_4
  · exact runCQ_5
  · omega
section
variable [Env]
theorem orcCQ_ok {k0 : Int} {r0 : Nat} (e0 : Env.val (.int .i64 0) = .int .i64 k0) (q0 : k0 % 6 = r0) : OrcOk Tryz.prog (orcCQ r0) := by
  intro f g e args h a h' hg
  unfold orcCQ at e
  cases h1 : Nat.beq f 82 with
  | true => rw [h1] at e; cases e; rw [Nat.eq_of_beq_eq_true h1]; exact low_ok hg
  | false =>
    rw [h1] at e
    replace e : sel (Nat.beq f 19) (some (orcTab _)) (sel (Nat.beq f 18) (some (orcOne 0 .nil (.bool true))) (sel (Nat.beq f 98) (some (orcFields 0)) none)) = some g := e
    cases h2 : Nat.beq f 19 with
    | true =>
      rw [h2] at e; cases e; rw [Nat.eq_of_beq_eq_true h2]
      refine orcTab_ok fn19 (fun p hp h => ?_) hg
      obtain rfl := List.mem_singleton.1 hp
      exact round_ok e0 (by decide) (by decide) q0 h
    | false =>
      rw [h2] at e
      replace e : sel (Nat.beq f 18) (some (orcOne 0 .nil (.bool true))) (sel (Nat.beq f 98) (some (orcFields 0)) none) = some g := e
      cases h3 : Nat.beq f 18 with
      | true => rw [h3] at e; cases e; rw [Nat.eq_of_beq_eq_true h3]; exact awk13 hg
      | false =>
        rw [h3] at e
        replace e : sel (Nat.beq f 98) (some (orcFields 0)) none = some g := e
        cases h4 : Nat.beq f 98 with
        | true => rw [h4] at e; cases e; rw [Nat.eq_of_beq_eq_true h4]; exact fields_ok hg
        | false => rw [h4] at e; cases e
end
/-- **the law holds** -/
theorem cascadePseudos_law (k0 : Int) (W : World) (hW : Asc 0 W) : Calls Tryz.prog 6 #[.int .i64 k0] W fun e W' => e = .returned (.bool true) ∧ Below W.heap.size W W' := by
  letI : Env := envL [.int .i64 k0] (by simp [one1])
  have q0 : k0 % 6 = ((k0 % 6).toNat : Int) := by omega
  have hrun := runCQ_all (k0 % 6).toNat (by omega)
  exact (run_true (callAt_sound Tb2.tt_ok hm2 Tb2.ft_ok (orcCQ_ok (k0 := k0) rfl q0) 60) (g := 0) (by decide) hrun hW (VL.cons rfl (VL.nil _))).2
end Go.Exe
