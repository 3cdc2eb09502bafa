/-
  The law PoolOnce, proved of the program's text: whatever comes in, the call returns true, and each argument reads behind it as before. No condition.
-/
import Derived.Test.YtbcleeifkmjlmaaPoolO
namespace Go.Proofs.Ytbcleeifkmjlmaa.poolOnce
open Go.ChangeShapes Go.WideShapes Go.ChangeAt Go.RowKit
theorem own : ownKnob Try.prog.godebug = none := by kernel_rfl
set_option maxRecDepth 100000 in
theorem lifted (os : Os) (started : os.Started) (H : Type) (enc : TypeId × Value → H) :
    ReturnsInHanded {} Try.checked os 7 .any (Rows.poolOnceSpec.pre6 enc Try.prog Try.f7 Rows.poolOnceRow.domain false) (Rows.poolOnceSpec.post enc Try.prog Try.f7 false true false false) := by
  refine returnsInHanded_of_change (C := Try.checked) own started (by kernel_rfl) Try.func7
    (ChangeSpec.witness6 (enc := enc) (C := Try.checked) false ⟨#[], #[.int .i64 0, .int .i64 0, .slice none 0 0], []⟩ 8 (by kernel_rfl) (by kernel_rfl) (by kernel_rfl) (by kernel_rfl)) ?_
  intro W base args ds gs before hval0 hW _ _
  have hval : ∀ (j : Nat) t v, Try.f7.params[j]? = some t → args[j]? = some v → Value.okWide Try.prog W .any base t v := hval0
  have hW' := hW
  obtain ⟨p, q, hA0, hV, rfl, hfz, hnd⟩ := hW
  have hA : DataW.TrodAll enc Try.prog W 0 (fun _ => true) true Try.f7.params.toList args.toList ds p := hA0
  have hA1 := hA
  rw [Try.params7] at hA hval
  obtain ⟨v0, vs0, d0, ds0, p0, q0, hargs0, e0, f0, h0, r0⟩ := trodAll_cons hA
  subst e0 f0
  obtain ⟨v1, vs1, d1, ds1, p1, q1, hargs1, e1, f1, h1, r1⟩ := trodAll_cons r0
  subst e1 f1
  subst hargs1
  obtain ⟨v2, vs2, d2, ds2, p2, q2, hargs2, e2, f2, h2, r2⟩ := trodAll_cons r1
  subst e2 f2
  subst hargs2
  obtain ⟨rfl, rfl, rfl⟩ := trodAll_nil r2
  obtain rfl : args = #[v0, v1, v2] := by cases args; simp_all
  obtain ⟨rfl, rfl⟩ := trodVars_none hV
  obtain ⟨a0, rfl, rfl, rfl, w0⟩ := open_int Try.underlying3 (hval 0 3 v0 rfl rfl) h0
  obtain ⟨a1, rfl, rfl, rfl, w1⟩ := open_int Try.underlying3 (hval 1 3 v1 rfl rfl) h1
  obtain ⟨a2, n2, c2, rfl⟩ := okWide_slice Try.underlying26 (hval 2 26 v2 rfl rfl)
  obtain ⟨l2, rd2, le2⟩ := rd_of_trod h2
  simp only [List.append_nil] at hW' hA1
  refine (PoolOnce_walk W a0 a1 a2 n2 c2 l2 rd2 le2).mono fun e W' ⟨he, hb⟩ => ?_
  subst he
  exact ⟨_, rfl, law_post (by kernel_rfl) (by rw [Try.params7]; intro t ht; simp at ht; rcases ht with rfl | rfl | rfl <;> exact ⟨by kernel_rfl, of_decide_eq_true (by kernel_rfl)⟩) Try.underlying4 (by kernel_rfl) rfl hW' hA1 rfl hb rfl rfl rfl⟩
theorem over : Rows.poolOnceRow.holds Try.pinned (OpenSpec.ofChange Rows.poolOnceSpec) :=
  OpenClaim.holds_of_wide 7 Try.f7 rfl rfl rfl rfl rfl rfl rfl ⟨rfl, rfl, rfl, rfl, rfl⟩ rfl rfl rfl rfl rfl (by kernel_rfl) Try.func7 (by kernel_rfl)
    (of_decide_eq_true (by kernel_rfl)) (by unfold Func.isWrapper; first | (rw [if_pos (by decide +kernel)]; kernel_rfl) | (rw [if_neg (by decide +kernel)]; exact ⟨rfl, rfl⟩))
    (fun os started H enc _ => lifted os started H enc)
theorem proved : Rows.PoolOnceSaid :=
  over
#print axioms proved
end Go.Proofs.Ytbcleeifkmjlmaa.poolOnce

