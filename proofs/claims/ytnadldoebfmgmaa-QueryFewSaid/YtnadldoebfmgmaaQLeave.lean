/-
  A ROW THAT SAYS 'leaving' AND 'outside := [.timePasses]', for a call that starts no goroutine: out of a sequential contract.
-/
import Derived.Test.YtnadldoebfmgmaaQY
import Derived.Conc.HoldsTime
import Derived.Leaving
import Derived.Carry
namespace Go.Proofs.Ytnadldoebfmgmaa.q
open Go.ChangeShapes Go.WideShapes Go.ChangeAt Go.RowKit Go.Conc Go.ConcM

section
variable {H : Type} {enc : TypeId × Value → H}
theorem leaving_of_calls {a : Assume} {C : Checked} {os : Os} {f : FuncId} {fn : Func} {s : ChangeSpec} {F : Stop.Interp} {conds : List PathCond} {apart fresh handsOn : Bool}
    (own : ownKnob C.prog.godebug = none) (started : os.Started) (noInit : C.prog.inits.idxOf? f = none) (hfn : C.prog.funcs[f]? = some fn)
    (witness : ∃ (w : World) (tape : Tape) (i : Input), w.os = os ∧ (w.forCall tape i).Shaped C.prog ∧ i.vars = [] ∧ Input.okWide C.prog (w.forCall tape i) .any w.heap.size f i ∧
      s.pre6 enc C.prog fn conds apart (w.forCall tape i).memory i.args ∧ a.holds C.prog (lone (Frame.enter C.prog f i.args .normal) [] (w.forCall tape i)))
    (contract : ∀ (W : World) (base : Nat) (args : Array Value) (ds gs : List (DataW H)) (before : List MemPlace),
      (∀ (j : Nat) t v, fn.params[j]? = some t → args[j]? = some v → Value.okWide C.prog W .any base t v) →
      DataW.Whole enc C.prog fn.params.toList s.vars apart W args.toList ds gs before →
      (DataW.weightsEach C.prog (fn.params.toList ++ s.plain.varTypes C.prog) (ds ++ gs)).all (· ≤ reachBytes) = true →
      Calls C.prog f args W fun e W' => ∃ v, e = .returned v ∧ s.post enc C.prog fn apart fresh handsOn false W args v W' ∧ W'.os = W.os) :
    ReturnsInLeavingWide a C os f .any (s.pre6 enc C.prog fn conds apart) ((OpenSpec.ofChange s).postWith enc C.prog fn F (outsideKept [.timePasses]) apart fresh handsOn) := by
  have h : ReturnsInHanded a C os f .any (s.pre6 enc C.prog fn conds apart) ((OpenSpec.ofChange s).postWith enc C.prog fn F (outsideKept [.timePasses]) apart fresh handsOn) := by
    refine returnsInHanded_of_calls own started noInit witness ?_
    intro w tape i _ _ _ hok hpre _
    obtain ⟨_, _, _, fn', hfn', _, _, _, _, hval⟩ := hok
    have e : fn' = fn := Option.some.inj (hfn'.symm.trans hfn)
    subst e
    obtain ⟨⟨ds, gs, before, hw, hc⟩, hz⟩ := hpre
    have hw' := DataW.Whole.of_heap (w' := w.forCall tape i) (by rfl) hw
    refine (contract (w.forCall tape i) w.heap.size i.args ds gs before hval hw' (hz.weights hw)).mono fun e W' ⟨v, he, hp, ho⟩ => ?_
    subst he
    have e2 : ({ W' with os := (w.forCall tape i).os } : World) = W' := by rw [← ho]
    refine postWith_blind (postWith_of_post (by rw [e2]; exact hp) ?_)
    rw [ho]
    exact OsLater.refl _
  exact fun enter => ReturnsInOpen.mono (fun _ _ _ x => ⟨x.2.1, onlyLeaving_of_quiet x.1, x.2.2⟩) (fun _ x => x) (h enter)
end
end Go.Proofs.Ytnadldoebfmgmaa.q
