/- For every n, k and t ListdecodeLimit returns true and leaves its arguments as they were. No condition. -/
import Derived.Test.YtgjphmcofmkmfaaRows
import Derived.Test.YtgjphmcofmkmfaaPListdecodeLimitx3
import Derived.Test.YtgjphmcofmkmfaaPureListdecodeLimit
import Derived.Test.YtgjphmcofmkmfaaHead
import Derived.WalkKit
import Derived.ProofKit
import Derived.OpenShut
import Derived.ShutString
import Derived.ChangeOld
import Derived.Below
import Derived.SizedLaws
namespace Go.Proofs.Ytgjphmcofmkmfaa.listdecodeLimit
open Go.ChangeShapes Go.WideShapes Go.ChangeAt Go.RowKit
open Go.ChangeMaps (open_string shut_string)
set_option linter.unusedVariables false
theorem own : ownKnob Try.prog.godebug = none := by kernel_rfl
set_option maxRecDepth 100000 in
theorem lifted (os : Os) (started : os.Started) (H : Type) (enc : TypeId × Value → H) :
    ReturnsInHanded {} Try.checked os 4 .any (Rows.listdecodeLimitSpec.pre6 enc Try.prog Try.f4 Rows.listdecodeLimitRow.domain false) (Rows.listdecodeLimitSpec.post enc Try.prog Try.f4 false true false false) := by
  refine returnsInHanded_of_change_sized (C := Try.checked) own started (by kernel_rfl) Try.func4
    (ChangeSpec.witness6 (enc := enc) (C := Try.checked) false ⟨#[], #[.int .i64 0, .int .i64 0, .int .i64 0], []⟩ 8 (by kernel_rfl) (by kernel_rfl) (by kernel_rfl) (by kernel_rfl)) ?_
  intro W base args ds gs before hval0 hW hcnd hsz0 _
  have hsz : (DataW.weightsEach Try.prog (Try.f4.params.toList ++ Rows.listdecodeLimitSpec.plain.varTypes Try.prog) (ds ++ gs)).all (· ≤ reachBytes) = true := hsz0
  have hval : ∀ (j : Nat) t v, Try.f4.params[j]? = some t → args[j]? = some v → Value.okWide Try.prog W .any base t v := hval0
  have hW' := hW
  obtain ⟨p, q, hA0, hV, rfl, hfz, hnd⟩ := hW
  have hA : DataW.TrodAll enc Try.prog W 0 (fun _ => true) true Try.f4.params.toList args.toList ds p := hA0
  rw [Try.params4] at hA hval hsz
  obtain ⟨v0, vs0, d0, ds0, p0, q0, hargs, rfl, rfl, h0, r0⟩ := trodAll_cons hA
  obtain ⟨v1, vs1, d1, ds1, p1, q1, rfl, rfl, rfl, h1, r1⟩ := trodAll_cons r0
  obtain ⟨v2, vs2, d2, ds2, p2, q2, rfl, rfl, rfl, h2, r2⟩ := trodAll_cons r1
  obtain ⟨rfl, rfl, rfl⟩ := trodAll_nil r2
  obtain rfl : args = #[v0, v1, v2] := by cases args; simp_all
  obtain ⟨rfl, rfl⟩ := trodVars_none hV
  obtain ⟨a0, rfl, rfl, rfl, w0⟩ := open_int Try.underlying3 (hval 0 3 v0 rfl rfl) h0
  obtain ⟨a1, rfl, rfl, rfl, w1⟩ := open_int Try.underlying3 (hval 1 3 v1 rfl rfl) h1
  obtain ⟨a2, rfl, rfl, rfl, w2⟩ := open_int Try.underlying3 (hval 2 3 v2 rfl rfl) h2
  clear hA0 hval0 hsz0 hsz
  refine (PListdecodeLimit.codewrightlaw41_ListdecodeLimit.walk Pure.ListdecodeLimit a0 a1 a2 W w0 w1 w2).mono fun e W' ⟨he, bel⟩ => ?_
  subst he
  exact ⟨_, rfl, _, _, _, [], _, [], hW', trodAll_mk1 (shut_bool Try.underlying4 _), (trodAll_cons_mk (shut_int Try.underlying3 w0) (trodAll_cons_mk (shut_int Try.underlying3 w1) (trodAll_cons_mk (shut_int Try.underlying3 w2) trodAll_mk0))), rfl, bel.frame _, fun h => by cases h⟩
theorem and_t {a b : Bool} (ha : a = true) (hb : b = true) : (a && b) = true := by rw [ha, hb]; rfl
theorem c00 : (Rows.listdecodeLimitRow.wf (OpenSpec.ofChange Rows.listdecodeLimitSpec)) = true := by kernel_rfl
theorem c01 : (laidOutB Try.pinned.checked.prog) = true := by kernel_rfl
theorem c02 : (mapsRowed Try.pinned.checked.prog) = true := by kernel_rfl
theorem c03 : (Try.f4.params.all (Try.pinned.checked.prog.readableRec ·)) = true := by kernel_rfl
theorem c04 : (namedTie Try.pinned.checked.prog Rows.listdecodeLimitRow.named (Rows.listdecodeLimitSpec).vars) = true := by kernel_rfl
theorem c05 : (Rows.listdecodeLimitRow.stops == []) = true := by kernel_rfl
theorem c06 : (Try.pinned.checked.prog.stops == []) = true := by kernel_rfl
theorem c07 : (Rows.listdecodeLimitRow.knobs == []) = true := by kernel_rfl
theorem c08 : (Try.pinned.checked.prog.stopKnobs == []) = true := by kernel_rfl
theorem c09 : (Rows.listdecodeLimitRow.inPlace == Try.pinned.checked.prog.inPlace 4) = true := by kernel_rfl
theorem c10 : (Rows.listdecodeLimitRow.unfollowed == Try.pinned.checked.prog.unfollowed 4) = true := by kernel_rfl
theorem c11 : (Rows.listdecodeLimitRow.recurses == Try.pinned.checked.prog.recurses 4) = true := by kernel_rfl
theorem c12 : (Rows.listdecodeLimitRow.named == Try.pinned.checked.prog.varsNamed 4) = true := by kernel_rfl
theorem c13 : (Rows.listdecodeLimitRow.maps == (Try.f4.params.toList ++ (Rows.listdecodeLimitSpec).plain.varTypes Try.pinned.checked.prog).any (Try.pinned.checked.prog.mapsRec ·)) = true := by kernel_rfl
theorem c14 : (Rows.listdecodeLimitRow.ifaces == (Try.f4.params.toList ++ (Rows.listdecodeLimitSpec).plain.varTypes Try.pinned.checked.prog).any (Try.pinned.checked.prog.ifacesRec ·)) = true := by kernel_rfl
theorem c15 : (Rows.listdecodeLimitRow.mapsOut == Try.pinned.checked.prog.mapsAmong Try.f4.resultTypes.toList) = true := by kernel_rfl
theorem c16 : (Rows.listdecodeLimitRow.loops == (Try.f4.params.toList ++ (Rows.listdecodeLimitSpec).plain.varTypes Try.pinned.checked.prog).any (Try.pinned.checked.prog.loopsFrom ·)) = true := by kernel_rfl
theorem c17 : (Rows.listdecodeLimitRow.wideKeys == (Try.f4.params.toList ++ (Rows.listdecodeLimitSpec).plain.varTypes Try.pinned.checked.prog ++ Try.f4.resultTypes.toList).any (Try.pinned.checked.prog.wideKeysFrom ·)) = true := by kernel_rfl
theorem c18 : ((Rows.listdecodeLimitSpec).vars.all (Try.pinned.checked.prog.varReadable ·)) = true := by kernel_rfl
theorem c19 : (Try.f4.resultTypes.all (fun t => Try.pinned.checked.prog.readableRec t && decide (t < Try.pinned.checked.prog.types.size))) = true := by kernel_rfl
theorem c20 : (Rows.listdecodeLimitRow.ifacesOut == Try.f4.resultTypes.toList.any (Try.pinned.checked.prog.ifacesRec ·)) = true := by kernel_rfl
theorem c21 : (Rows.listdecodeLimitRow.loopsOut == Try.f4.resultTypes.toList.any (Try.pinned.checked.prog.loopsFrom ·)) = true := by kernel_rfl
theorem c22 : (Rows.listdecodeLimitRow.plainKeys == Try.pinned.checked.prog.plainKeys) = true := by kernel_rfl
theorem c23 : (Rows.listdecodeLimitRow.shortTexts.isNone) = true := by kernel_rfl
theorem c24 : (Try.pinned.checked.prog.stopsHeard) = true := by kernel_rfl
theorem c25 : (Try.pinned.checked.prog.mayEnter) = true := Head.enter_
theorem c26 : (Rows.listdecodeLimitRow.lifted == Try.pinned.checked.prog.liftsFinal) = true := by rw [Head.final_]; rfl
theorem c27 : (Try.pinned.checked.prog.make == some Rows.listdecodeLimitRow.make) = true := by rw [Head.make_]; rfl
theorem c28 : (Rows.listdecodeLimitRow.kinds == (if Rows.listdecodeLimitRow.domain.isEmpty then [] else Try.f4.params.toList.map fun t => match Try.pinned.checked.prog.underlying t with | some (.int k) => some k | _ => none)) = true := by kernel_rfl
theorem c29 : (Rows.listdecodeLimitRow.pinned == Rows.listdecodeLimitRow.pinnedBy) = true := by kernel_rfl
theorem c30 : (Rows.listdecodeLimitRow.veiled == (Try.f4.params.toList ++ (Rows.listdecodeLimitSpec).plain.varTypes Try.pinned.checked.prog ++ Try.f4.resultTypes.toList).any (Try.pinned.checked.prog.veiledRec ·)) = true := by kernel_rfl
theorem c31 : (Rows.listdecodeLimitRow.veiledFits Try.pinned.checked.prog Try.f4.params.toList (Try.f4.params.toList ++ (Rows.listdecodeLimitSpec).plain.varTypes Try.pinned.checked.prog ++ Try.f4.resultTypes.toList)) = true := by kernel_rfl
theorem named_ : Try.pinned.checked.prog.funcNamed Rows.listdecodeLimitRow.func = some 4 := by kernel_rfl
set_option maxRecDepth 100000 in
theorem closed_ : joinedFacts Try.pinned.checked.prog 4 Try.f4 (Rows.listdecodeLimitSpec) Rows.listdecodeLimitRow = true := by
  unfold joinedFacts
  exact (and_t (and_t (and_t (and_t (and_t (and_t (and_t (and_t (and_t (and_t (and_t (and_t (and_t (and_t (and_t (and_t (and_t (and_t (and_t (and_t (and_t (and_t (and_t (and_t (and_t (and_t (and_t (and_t (and_t (and_t (and_t c00 c01) c02) c03) c04) c05) c06) c07) c08) c09) c10) c11) c12) c13) c14) c15) c16) c17) c18) c19) c20) c21) c22) c23) c24) c25) c26) c27) c28) c29) c30) c31)
theorem inst_ : Try.f4.isInstance Try.pinned.checked.prog Rows.listdecodeLimitRow.origin Rows.listdecodeLimitRow.targs := of_decide_eq_true (by kernel_rfl)
theorem wrap_ : Try.f4.isWrapper Try.pinned.checked.prog Rows.listdecodeLimitRow.wrapper Rows.listdecodeLimitRow.mainSum := by unfold Func.isWrapper; first | (rw [if_pos (by decide +kernel)]; kernel_rfl) | (rw [if_neg (by decide +kernel)]; exact ⟨rfl, rfl⟩)
theorem over : Rows.listdecodeLimitRow.holds Try.pinned (OpenSpec.ofChange Rows.listdecodeLimitSpec) :=
  OpenClaim.holds_of_wide 4 Try.f4 rfl rfl rfl rfl rfl rfl rfl ⟨rfl, rfl, rfl, rfl, rfl⟩ rfl rfl rfl rfl rfl named_ Try.func4 closed_ inst_ wrap_
    (fun os started H enc _ => lifted os started H enc)
theorem proved : Rows.ListdecodeLimitSaid := over
#print axioms proved
end Go.Proofs.Ytgjphmcofmkmfaa.listdecodeLimit
namespace Go.Proofs.Ytgjphmcofmkmfaa
/-- The row, under a short name, for the claim. -/
theorem listdecodeLimit_holds : Rows.ListdecodeLimitSaid := listdecodeLimit.proved
end Go.Proofs.Ytgjphmcofmkmfaa
