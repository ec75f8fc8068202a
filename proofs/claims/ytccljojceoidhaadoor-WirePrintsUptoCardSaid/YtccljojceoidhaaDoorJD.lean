/-
  JOINED of the texts ErrV ToldQ WJ LaidW LaidF LaidL LaidD LaidP
-/
import Derived.Test.YtccljojceoidhaaDoorBase
import Derived.LaidEql
import Derived.Stop.Asserts
import Derived.RowKitTokens
import Derived.Test.YtccljojceoidhaaDoorJC
import Derived.Test.YtccljojceoidhaaDoorWF
import Derived.PinnedBridge
import Derived.Lib.LaidU8
import Derived.Lib.LaidIn
import Derived.LaidLaws
import Derived.Stop.Joined
import Derived.Stop.LaidErr
import Derived.Shelf.Vars
import Derived.LaidHandle
import Derived.Test.YtccljojceoidhaaDoorLI
import Derived.Test.YtccljojceoidhaaDoorVF
/-
  ERRORS by their numbers.
-/
namespace Go.Proofs.YtccljojceoidhaaDoor
/-- an error as package api has them -/
def errV : Nat → Value
  | 0 => .nilIface
  | k => .iface 66 (.int .i64 k)
end Go.Proofs.YtccljojceoidhaaDoor
/-
  plain.Told, and errors.As at a target of type *api.Errno (after the guide's worked example Toyas): the number of an error; Error of package amanuensissame.
-/
namespace Go.Proofs.YtccljojceoidhaaDoor
open Go.RowKit Go.Extern.Stop Go.Stop Go.Extern

set_option maxRecDepth 100000 in
theorem as_nil (t : Value) (w : World) :
    Calls Tryd.prog 61 #[.nilIface, t] w fun e w' => e = .returned (.bool false) ∧ w' = w := by
  go_enter Tryd.func61, Tryd.ntmps61
  go_wp2
  go_ret
  exact ⟨rfl, rfl⟩

theorem as_valueOfP (t : Addr) (w : World) : (ReflectliteValue.unpack (.iface 106 (.pointer (some t)))).run Tryd.prog w
    = .ok (.agg #[.pointer (some ⟨10, 106, none⟩), .pointer (some ⟨w.heap.size, 0, none⟩), .int .u64 150]) (w.alloc (.cells #[.pointer (some t)] 106)) := by kernel_rfl
theorem as_typeP (a : Addr) (w : World) : (ReflectliteValue.methodAny (ReflectliteValue.valueError "reflectlite.Value.Type" 0) (fun t _ _ _ => ReflectliteType.toType t) #[.agg #[.pointer (some ⟨10, 106, none⟩), .pointer (some a), .int .u64 150]]).run Tryd.prog w
    = .ok (.iface 158 (.agg #[.pointer (some ⟨10, 106, none⟩)])) w := by kernel_rfl
theorem as_methodKind (h : Value) (w : World) : (Go.method 339 158 (.agg #[h]) "Kind").run Tryd.prog w = .ok (181, h) w := by kernel_rfl
theorem as_kindP (w : World) : ((ReflectliteType.abiMethod fun t => (fun a : Nat => Value.int IntKind.u8 (a : Int)) <$> Rtype.kind t) #[.pointer (some ⟨10, 106, none⟩)]).run Tryd.prog w = .ok (.int .u8 22) w := by kernel_rfl
theorem as_kindE (w : World) : ((ReflectliteType.abiMethod fun t => (fun a : Nat => Value.int IntKind.u8 (a : Int)) <$> Rtype.kind t) #[.pointer (some ⟨10, 66, none⟩)]).run Tryd.prog w = .ok (.int .u8 2) w := by kernel_rfl
theorem as_rlm (z : Sem Value) (f : TypeId → Addr → Nat → Nat → Sem Value) (v : Value) :
    ReflectliteValue.method z f #[v] = (do match ← ReflectliteValue.parts v with | none => z | some (t, a, fl) => f t a fl (fl % 32)) := rfl
theorem as_partsP (a : Addr) (w : World) : (ReflectliteValue.parts (.agg #[.pointer (some ⟨10, 106, none⟩), .pointer (some a), .int .u64 150])).run Tryd.prog w = .ok (some (106, a, 150)) w := by kernel_rfl
theorem as_isNilP (a p : Addr) (W : World) (ha : W.cell? a = some (.pointer (some p))) :
    (ReflectliteValue.method (ReflectliteValue.valueError "reflectlite.Value.IsNil" 0) ReflectliteValue.isNil #[.agg #[.pointer (some ⟨10, 106, none⟩), .pointer (some a), .int .u64 150]]).run Tryd.prog W = .ok (.bool false) W := by
  rw [as_rlm]
  simp only [Sem.run_bind, as_partsP, Result.andThen]
  simp [ReflectliteValue.isNil, loadVar, isAgg, underlying, Tryd.underlying106, ha, Result.andThen]
theorem as_methodElem (h : Value) (w : World) : (Go.method 339 158 (.agg #[h]) "Elem").run Tryd.prog w = .ok (192, .agg #[h]) w := by kernel_rfl
theorem as_methodImplements (h : Value) (w : World) : (Go.method 339 158 (.agg #[h]) "Implements").run Tryd.prog w = .ok (193, .agg #[h]) w := by kernel_rfl
theorem as_methodAssignableTo (h : Value) (w : World) : (Go.method 339 158 (.agg #[h]) "AssignableTo").run Tryd.prog w = .ok (190, .agg #[h]) w := by kernel_rfl
theorem as_elemP (w : World) : (ReflectliteType.method ReflectliteType.elem #[.agg #[.pointer (some ⟨10, 106, none⟩)]]).run Tryd.prog w = .ok (.iface 158 (.agg #[.pointer (some ⟨10, 66, none⟩)])) w := by kernel_rfl
theorem as_implementsE (w : World) : (ReflectliteType.relation "Implements" ReflectliteType.implements_ #[.agg #[.pointer (some ⟨10, 66, none⟩)], .iface 158 (.agg #[.pointer (some ⟨10, 27, none⟩)])]).run Tryd.prog w = .ok (.bool true) w := by kernel_rfl
theorem as_typeOfE (v : Value) (w : World) : (ReflectliteType.typeOf #[.iface 66 v]).run Tryd.prog w = .ok (.iface 158 (.agg #[.pointer (some ⟨10, 66, none⟩)])) w := by kernel_rfl
theorem as_assignableE (w : World) : (ReflectliteType.relation "AssignableTo" ReflectliteType.assignableTo #[.agg #[.pointer (some ⟨10, 66, none⟩)], .iface 158 (.agg #[.pointer (some ⟨10, 66, none⟩)])]).run Tryd.prog w = .ok (.bool true) w := by kernel_rfl
theorem as_valueOfE (n : Int) (w : World) : (ReflectliteValue.unpack (.iface 66 (.int .i64 n))).run Tryd.prog w
    = .ok (.agg #[.pointer (some ⟨10, 66, none⟩), .pointer (some ⟨w.heap.size, 0, none⟩), .int .u64 130]) (w.alloc (.cells #[.int .i64 n] 66)) := by kernel_rfl
theorem as_elemOfP (w : World) : (Rtype.elem? 106).run Tryd.prog w = .ok (some 66) w := by kernel_rfl
theorem as_mkE (p : Addr) (w : World) : (ReflectliteValue.mk 66 p ReflectliteValue.flagAddr).run Tryd.prog w = .ok (.agg #[.pointer (some ⟨10, 66, none⟩), .pointer (some p), .int .u64 386]) w := by kernel_rfl
theorem as_elemVP (a p : Addr) (W : World) (ha : W.cell? a = some (.pointer (some p))) :
    (ReflectliteValue.method (ReflectliteValue.valueError "reflectlite.Value.Elem" 0) ReflectliteValue.elem #[.agg #[.pointer (some ⟨10, 106, none⟩), .pointer (some a), .int .u64 150]]).run Tryd.prog W
      = .ok (.agg #[.pointer (some ⟨10, 66, none⟩), .pointer (some p), .int .u64 386]) W := by
  rw [as_rlm]
  simp only [Sem.run_bind, as_partsP, Result.andThen]
  simp [ReflectliteValue.elem, loadVar, isAgg, underlying, Tryd.underlying106, ha, Result.andThen, as_elemOfP, as_mkE]
theorem as_rls (v x : Value) : ∃ (s1 s2 s3 s4 s5 : String), ReflectliteValue.set #[v, x] = (do
    let (some (dst, a, fl), some (src, b, _)) := (← ReflectliteValue.parts v, ← ReflectliteValue.parts x)
      | unsupported (.noEntry s1)
    if fl / ReflectliteValue.flagAddr % 2 == 0 then unsupported (.noEntry s2)
    let val ← loadVar src b
    if ← Rtype.directlyAssignable dst src then storeVar dst a val
    else if ← Rtype.implements dst src then
      if (← Rtype.kind src) == 20 then
        match val with
        | .nilIface => unsupported (.noEntry s3)
        | _ => storeVar dst a val
      else storeVar dst a (.iface src val)
    else panicString (s4 ++ (← Rtype.spelt src) ++ s5 ++ (← Rtype.spelt dst))
    pure (.tuple #[])) := ⟨_, _, _, _, _, rfl⟩
theorem as_partsEa (a : Addr) (w : World) : (ReflectliteValue.parts (.agg #[.pointer (some ⟨10, 66, none⟩), .pointer (some a), .int .u64 386])).run Tryd.prog w = .ok (some (66, a, 386)) w := by kernel_rfl
theorem as_partsE (a : Addr) (w : World) : (ReflectliteValue.parts (.agg #[.pointer (some ⟨10, 66, none⟩), .pointer (some a), .int .u64 130])).run Tryd.prog w = .ok (some (66, a, 130)) w := by kernel_rfl
theorem as_directE (w : World) : (Rtype.directlyAssignable 66 66).run Tryd.prog w = .ok true w := by kernel_rfl
theorem as_setE (ta b : Addr) (n : Int) (old : Value) (W : World) (hb : W.cell? b = some (.int .i64 n)) (ht : W.cell? ta = some old) (hf : W.frozen? ta = false) :
    (ReflectliteValue.set #[.agg #[.pointer (some ⟨10, 66, none⟩), .pointer (some ta), .int .u64 386], .agg #[.pointer (some ⟨10, 66, none⟩), .pointer (some b), .int .u64 130]]).run Tryd.prog W
      = .ok (.tuple #[]) (W.setCell ta (.int .i64 n)) := by
  obtain ⟨s1, s2, s3, s4, s5, he⟩ := as_rls (.agg #[.pointer (some ⟨10, 66, none⟩), .pointer (some ta), .int .u64 386]) (.agg #[.pointer (some ⟨10, 66, none⟩), .pointer (some b), .int .u64 130])
  rw [he]
  simp only [Sem.run_bind, as_partsEa, as_partsE, Result.andThen]
  simp [ReflectliteValue.flagAddr, loadVar, isAgg, underlying, Tryd.underlying66, hb, Result.andThen, as_directE, storeVar, Value.cells, storeCells, Addr.add]
  rw [run_store Tryd.prog W ta _ _ (by rfl)]
  simp [ht, hf]

/-- errors.errorType holds its handle -/
def ErrT (w : World) : Prop := w.cell? ⟨1, 0, none⟩ = some (.iface 158 (.agg #[.pointer (some ⟨10, 27, none⟩)]))
theorem ErrT.lt {w : World} (h : ErrT w) : 1 < w.heap.size := World.block_lt_of_cell? w ⟨1, 0, none⟩ h
theorem ErrT.below {w w' : World} {B : Nat} (h : ErrT w) (hb : Below B w w') (hB : 1 < B) : ErrT w' := (hb.cell (p := ⟨1, 0, none⟩) hB).trans h
theorem ErrT.size {w w' : World} (h : ErrT w) (hb : Below w.heap.size w w') : ErrT w' := h.below hb h.lt

set_option maxHeartbeats 4000000 in
set_option maxRecDepth 100000 in
theorem as_hit (n : Int) (tb : Nat) (old : Value) (w : World) (hg : ErrT w) (ht0 : w.cell? ⟨tb, 0, none⟩ = some old) (hf0 : w.frozen? ⟨tb, 0, none⟩ = false) :
    Calls Tryd.prog 61 #[.iface 66 (.int .i64 n), .iface 106 (.pointer (some ⟨tb, 0, none⟩))] w fun ev w' => ev = .returned (.bool true) ∧
      w' = ((((w.alloc (.cells #[.pointer (some ⟨tb, 0, none⟩)] 106)).alloc (.cells #[.pointer (some ⟨10, 106, none⟩), .pointer (some ⟨w.heap.size, 0, none⟩), .int .u64 150] 131)).alloc (.cells #[.pointer (some ⟨10, 106, none⟩), .pointer (some ⟨w.heap.size, 0, none⟩), .int .u64 150] 131)).alloc (.cells #[.int .i64 n] 66)).setCell ⟨tb, 0, none⟩ (.int .i64 n) := by
  have h6 := @run_callFunc_extern Tryd.prog 90 _ (fun args => ReflectliteValue.unpack (args.getD 0 (.tuple #[]))) Tryd.func90 (by kernel_rfl) (by kernel_rfl) (by kernel_rfl) (by kernel_rfl)
  have h7 := @run_callFunc_extern Tryd.prog 91 _ (ReflectliteValue.methodAny (ReflectliteValue.valueError "reflectlite.Value.Type" 0) (fun t _ _ _ => ReflectliteType.toType t)) Tryd.func91 (by kernel_rfl) (by kernel_rfl) (by kernel_rfl) (by kernel_rfl)
  have h8 := @run_callFunc_extern Tryd.prog 92 _ (ReflectliteValue.method (ReflectliteValue.valueError "reflectlite.Value.IsNil" 0) ReflectliteValue.isNil) Tryd.func92 (by kernel_rfl) (by kernel_rfl) (by kernel_rfl) (by kernel_rfl)
  have h27 := @run_callFunc_extern Tryd.prog 181 _ (ReflectliteType.abiMethod fun t => do pure (.int .u8 (← Rtype.kind t))) Tryd.func181 (by kernel_rfl) (by kernel_rfl) (by kernel_rfl) (by kernel_rfl)
  have h37 := @run_callFunc_extern Tryd.prog 192 _ (ReflectliteType.method ReflectliteType.elem) Tryd.func192 (by kernel_rfl) (by kernel_rfl) (by kernel_rfl) (by kernel_rfl)
  have h38 := @run_callFunc_extern Tryd.prog 193 _ (ReflectliteType.relation "Implements" ReflectliteType.implements_) Tryd.func193 (by kernel_rfl) (by kernel_rfl) (by kernel_rfl) (by kernel_rfl)
  have h10 := @run_callFunc_extern Tryd.prog 121 _ ReflectliteType.typeOf Tryd.func121 (by kernel_rfl) (by kernel_rfl) (by kernel_rfl) (by kernel_rfl)
  have h35 := @run_callFunc_extern Tryd.prog 190 _ (ReflectliteType.relation "AssignableTo" ReflectliteType.assignableTo) Tryd.func190 (by kernel_rfl) (by kernel_rfl) (by kernel_rfl) (by kernel_rfl)
  have h11 := @run_callFunc_extern Tryd.prog 122 _ (ReflectliteValue.method (ReflectliteValue.valueError "reflectlite.Value.Elem" 0) ReflectliteValue.elem) Tryd.func122 (by kernel_rfl) (by kernel_rfl) (by kernel_rfl) (by kernel_rfl)
  have h12 := @run_callFunc_extern Tryd.prog 123 _ ReflectliteValue.set Tryd.func123 (by kernel_rfl) (by kernel_rfl) (by kernel_rfl) (by kernel_rfl)
  have tO := as_typeOfE
  have mA := as_methodAssignableTo
  have a25 := as_assignableE
  have v25 := as_valueOfE
  have f6 := as_valueOfP
  have f7 := as_typeP
  have mK := as_methodKind
  have mE := as_methodElem
  have mI := as_methodImplements
  have k27 := as_kindP
  have k25 := as_kindE
  have e27 := as_elemP
  have i25 := as_implementsE
  have n8 := as_isNilP ⟨w.heap.size, 0, none⟩ ⟨tb, 0, none⟩ ((w.alloc (.cells #[.pointer (some ⟨tb, 0, none⟩)] 106)).alloc (.cells #[.pointer (some ⟨10, 106, none⟩), .pointer (some ⟨w.heap.size, 0, none⟩), .int .u64 150] 131)) (by simp)
  have hlt := hg.lt
  have hg2 : ((w.alloc (.cells #[.pointer (some ⟨tb, 0, none⟩)] 106)).alloc (.cells #[.pointer (some ⟨10, 106, none⟩), .pointer (some ⟨w.heap.size, 0, none⟩), .int .u64 150] 131)).cell? ⟨1, 0, none⟩ = some (.iface 158 (.agg #[.pointer (some ⟨10, 27, none⟩)])) := by
    rw [cell_alloc _ _ _ _ (by simp <;> omega), cell_alloc _ _ _ _ hlt]; exact hg
  have htl : tb < w.heap.size := World.block_lt_of_cell? w ⟨tb, 0, none⟩ ht0
  have el := as_elemVP ⟨w.heap.size, 0, none⟩ ⟨tb, 0, none⟩ (((w.alloc (.cells #[.pointer (some ⟨tb, 0, none⟩)] 106)).alloc (.cells #[.pointer (some ⟨10, 106, none⟩), .pointer (some ⟨w.heap.size, 0, none⟩), .int .u64 150] 131)).alloc (.cells #[.pointer (some ⟨10, 106, none⟩), .pointer (some ⟨w.heap.size, 0, none⟩), .int .u64 150] 131)) (by rw [cell_alloc _ _ _ _ (by simp; omega)]; simp)
  have st := as_setE ⟨tb, 0, none⟩ ⟨w.heap.size + 1 + 1 + 1, 0, none⟩ n old ((((w.alloc (.cells #[.pointer (some ⟨tb, 0, none⟩)] 106)).alloc (.cells #[.pointer (some ⟨10, 106, none⟩), .pointer (some ⟨w.heap.size, 0, none⟩), .int .u64 150] 131)).alloc (.cells #[.pointer (some ⟨10, 106, none⟩), .pointer (some ⟨w.heap.size, 0, none⟩), .int .u64 150] 131)).alloc (.cells #[.int .i64 n] 66))
    (by rw [World.cell?_alloc_at (hn := by simp)]; rfl)
    (by rw [cell_alloc _ _ _ _ (by simp; omega), cell_alloc _ _ _ _ (by simp; omega), cell_alloc _ _ _ _ (by simp; omega), cell_alloc _ _ _ _ htl]; exact ht0)
    (by rw [frozen_alloc _ _ _ _ (by simp; omega), frozen_alloc _ _ _ _ (by simp; omega), frozen_alloc _ _ _ _ (by simp; omega), frozen_alloc _ _ _ _ htl]; exact hf0)
  unfold ErrT at hg
  go_enter Tryd.func61, Tryd.ntmps61
  go_wp2
  refine wp_loop_rounds 1 ?_
  rw [rounds_succ]
  go_wp2
  go_ret
  exact ⟨rfl, rfl⟩

set_option maxRecDepth 100000 in
theorem told_nil (w : World) : Calls Tryd.prog 38 #[.nilIface] w fun e w' => e = .returned (.int .i64 0) ∧ Below w.heap.size w w' := by
  go_enter Tryd.func38, Tryd.ntmps38
  go_wp2
  go_ret
  exact ⟨rfl, Below.refl _ _⟩

set_option maxRecDepth 100000 in
theorem told_err (n : Int) (w : World) (hg : ErrT w) : Calls Tryd.prog 38 #[.iface 66 (.int .i64 n)] w fun e w' => e = .returned (.int .i64 n) ∧ Below w.heap.size w w' := by
  have hA : Below w.heap.size w (w.alloc (.cells #[.int .i64 0] 66)) := (Below.refl _ _).alloc (Nat.le_refl _) _
  have hgA := hg.size hA
  have htA : (w.alloc (.cells #[.int .i64 0] 66)).cell? ⟨w.heap.size, 0, none⟩ = some (.int .i64 0) := by simp
  have hfA : (w.alloc (.cells #[.int .i64 0] 66)).frozen? ⟨w.heap.size, 0, none⟩ = false := by simp
  have hh := as_hit n w.heap.size _ _ hgA htA hfA
  have Hh := Lib.hid hh
  clear hh htA hfA hgA
  go_enter Tryd.func38, Tryd.ntmps38
  go_wp2_with fail
  refine Hh.out.mono ?_
  rintro e w' ⟨rfl, rfl⟩
  go_wp2
  go_ret
  exact ⟨rfl, (((((Below.refl _ _).alloc (Nat.le_refl _) _).alloc (by simp) _).alloc (by simp; omega) _).alloc (by simp; omega) _).alloc (by simp; omega) _⟩

theorem told_walk (k : Nat) (w : World) (hg : ErrT w) : Calls Tryd.prog 38 #[errV k] w fun e w' => e = .returned (.int .i64 k) ∧ Below w.heap.size w w' := by
  cases k with
  | zero => exact told_nil w
  | succ k => exact told_err _ w hg

set_option maxRecDepth 100000 in
/-- Error of package amanuensissame -/
theorem error_yes (k : Nat) (n : Int) (w : World) (hg : ErrT w) (hk : (k : Int) = n) : Calls Tryd.prog 14 #[errV k, .int .i64 n] w fun e w' => e = .returned (.bool true) ∧ Below w.heap.size w w' := by
  subst hk
  go_enter Tryd.func14, Tryd.ntmps14
  go_wp2_with fail
  refine (told_walk k _ hg).mono ?_
  rintro e w1 ⟨rfl, hb1⟩
  go_wp2
  go_ret
  exact ⟨by simp, hb1⟩
set_option maxRecDepth 100000 in
theorem error_no (k : Nat) (n : Int) (w : World) (hg : ErrT w) (hk : (k : Int) ≠ n) : Calls Tryd.prog 14 #[errV k, .int .i64 n] w fun e w' => e = .returned (.bool false) ∧ Below w.heap.size w w' := by
  have h : ((k : Int) == n) = false := by simpa using hk
  clear hk
  go_enter Tryd.func14, Tryd.ntmps14
  go_wp2_with fail
  refine (told_walk k _ hg).mono ?_
  rintro e w1 ⟨rfl, hb1⟩
  go_wp2
  go_ret
  exact ⟨by simp, hb1⟩
end Go.Proofs.YtccljojceoidhaaDoor
/-
  WALKS of package amanuensislaw7: WirePrints.
-/
namespace Go.Proofs.YtccljojceoidhaaDoor
open Go.RowKit

theorem wpV_eq (X : Nat × Bs) : wpV X = .tuple #[.string ⟨(if X.1 = 0 then X.2 else []).toArray⟩, errV X.1] := by
  obtain ⟨e, t⟩ := X
  cases e with
  | zero => rfl
  | succ e => unfold wpV; rw [if_neg (by simp), if_neg (by simp)]; rfl

set_option maxHeartbeats 4000000 in
set_option maxRecDepth 100000 in
theorem wirePrints_walk (j : JT) (d : Nat) (Ak Ad : Option Addr) (ck cd : Nat) (w : World) (hT : Tab10 w) (hD : DB w) (hg : ErrT w) (hj : JIn w w.heap.size d j Ak ck Ad) (h2 : j.wt ≤ 9000000) :
    Calls Tryd.prog 3 #[jVal j.kind j.num j.text j.keys.length j.kids.length Ak Ad ck cd] w fun e w' => e = .returned (.bool true) ∧ Below w.heap.size w w' := by
  have hb0 : Below w.heap.size w (w.alloc (.cells #[.int .i64 j.kind, .int .i64 j.num, .string ⟨j.text.toArray⟩, .slice Ak j.keys.length ck, .slice Ad j.kids.length cd] 25)) := (Below.refl _ _).alloc (Nat.le_refl _) _
  have hp := wprint_walk j w.heap.size d Ak Ad ck cd _ (hT.below hb0 hT.lt) (hD.below hb0) (hj.below hb0) hb0.size h2
  have hjs := fun w1 (hb : Below w.heap.size w w1) => json_walk d j w.heap.size Ak Ad ck cd w1 (hj.below hb) hb.size h2
  have hrp := fun N d' q w1 (h : RjAt w1 N d' j q) hN => rprint_any 40 0 rfl N d' j q w1 h hN h2
  rw [wpV_eq] at hp
  simp only [rpV] at hrp
  generalize hX : printM 40 j = X at *
  clear hX
  obtain ⟨fe, ft⟩ := X
  generalize hY : (if fe = 0 then ft else []) = ft2 at *
  simp only [hY] at hp hrp
  clear hY ft h2 hT hD hj
  have HP := Lib.hid hp
  clear hp
  go_enter Tryd.func3, Tryd.ntmps3
  go_wp2_with fail
  refine HP.out.mono ?_
  rintro e w1 ⟨rfl, hb1⟩
  have c0 : w1.cell? ⟨w.heap.size, 0, none⟩ = some (.int .i64 j.kind) := (hb1.cell (p := ⟨w.heap.size, 0, none⟩) (by simp)).trans (by simp)
  have c1 : w1.cell? ⟨w.heap.size, 1, none⟩ = some (.int .i64 j.num) := (hb1.cell (p := ⟨w.heap.size, 1, none⟩) (by simp)).trans (by simp)
  have c2 : w1.cell? ⟨w.heap.size, 2, none⟩ = some (.string ⟨j.text.toArray⟩) := (hb1.cell (p := ⟨w.heap.size, 2, none⟩) (by simp)).trans (by simp)
  have c3 : w1.cell? ⟨w.heap.size, 3, none⟩ = some (.slice Ak j.keys.length ck) := (hb1.cell (p := ⟨w.heap.size, 3, none⟩) (by simp)).trans (by simp)
  have c4 : w1.cell? ⟨w.heap.size, 4, none⟩ = some (.slice Ad j.kids.length cd) := (hb1.cell (p := ⟨w.heap.size, 4, none⟩) (by simp)).trans (by simp)
  have hb1 := hb0.trans (hb1.mono hb0.size)
  go_wp2_with fail
  refine (hjs w1 hb1).mono ?_
  rintro e w2 ⟨q, rfl, hR, hb2⟩
  have hb02 := hb1.trans (hb2.mono hb1.size)
  clear c0 c1 c2 c3 c4
  have hr := hrp _ _ q w2 hR (fun b h => h.2)
  have hr : Calls Tryd.prog 13 #[.pointer (some ⟨q, 0, none⟩), .int .i64 0] w2 _ := hr
  clear hR hjs hrp HP
  go_wp2_with fail
  refine hr.mono ?_
  rintro e w3 ⟨rfl, hb3⟩
  have hb03 := hb02.trans (hb3.mono hb02.size)
  have he := error_yes fe fe w3 (hg.size hb03) rfl
  clear hr
  go_wp2_with fail
  refine he.mono ?_
  rintro e w4 ⟨rfl, hb4⟩
  have hb04 := hb03.trans (hb4.mono hb03.size)
  go_wp2_with fail
  go_ret
  exact ⟨by first | rfl | simp, hb04⟩
end Go.Proofs.YtccljojceoidhaaDoor
/-
  WHAT THE ROW's LIST (the tables and errors that package strconv reads) GIVES A WALK; a world that meets it.
-/
namespace Go.Proofs.YtccljojceoidhaaDoor
open Go.ChangeShapes Go.WideShapes Go.RowKit

theorem maxL_of {W : World} (h : W.ShapedOpen Tryd.prog) : ∃ m, MaxL W m :=
  Go.Proofs.cell_of_shapedOpen_int (zero := #[.int .i64 0]) (t := 3) h (by decide) (by kernel_rfl) rfl (by kernel_rfl) (by kernel_rfl) Tryd.underlying3

namespace laidW
theorem acc_eq : Rows.laid_unicode_utf8_acceptRanges = Lib.acceptData := by kernel_rfl
theorem first_eq : Rows.laid_unicode_utf8_first = Lib.firstData := Pinned.utf8First_eq
theorem pow_eq : (Rows.laid_internal_strconv_uint64pow10 : DataW Unit) = Lib.tabData .u64 Lib.pow10Tab := by kernel_rfl
theorem tab10_of {l : List (String × DataW Unit)} {W : World} (h : laidMet Tryd.prog (("internal/strconv.uint64pow10", Rows.laid_internal_strconv_uint64pow10) :: l) W) : Tab10 W := by
  rw [pow_eq] at h
  exact Lib.tabIs_of_head (n := 20) g10 (t := 184) (e := 152) (by kernel_rfl) Tryd.underlying184 Tryd.underlying152 (by kernel_rfl) (by kernel_rfl) h

abbrev frameList : List (String × DataW Unit) := [("math/bits.deBruijn32tab", Rows.laid_math_bits_deBruijn32tab), ("math/bits.deBruijn64tab", Rows.laid_math_bits_deBruijn64tab), ("internal/strconv.uint64pow10", Rows.laid_internal_strconv_uint64pow10), ("unicode/utf8.acceptRanges", Rows.laid_unicode_utf8_acceptRanges), ("strconv.ErrRange", Rows.laid_strconv_ErrRange), ("strconv.ErrSyntax", Rows.laid_strconv_ErrSyntax), ("unicode/utf8.first", Rows.laid_unicode_utf8_first)]
theorem frame_of {W : World} (h : laidMetH Tryd.prog frameList W) : Tab10 W :=
  tab10_of (laidMet.tail (laidMet.tail (show laidMet Tryd.prog frameList W from h)))

/-- the cells of an array of integers -/
def litV : DataW Unit → List Value
  | .agg ds => ds.map fun
    | .lit (.int k z) => .int k z
    | _ => .bool false
  | _ => []
/-- A world that meets the condition: the settled one, the variables' cells laid, the errors' blocks behind. -/
noncomputable def frameWorld (os : Os) : World :=
  let w0 := World.holding Tryd.prog os ⟨#[], #[], []⟩
  let put (h : Array Obj) (g : Nat) (cs : Array Value) : Array Obj := h.modify g fun
    | .cells _ t frozen => .cells cs t frozen
    | o => o
  let h1 := put w0.heap 4 (Lib.firstTab.map fun z => Value.int .u8 z).toArray
  let h2 := put h1 5 ((List.range 16).flatMap fun i => [Value.int .u8 (Lib.accLo i), Value.int .u8 (Lib.accHi i)]).toArray
  let h3 := put h2 8 (litV Rows.laid_math_bits_deBruijn32tab).toArray
  let h4 := put h3 9 (litV Rows.laid_math_bits_deBruijn64tab).toArray
  let h5 := put h4 2 (litV Rows.laid_internal_strconv_uint64pow10).toArray
  let n := h5.size
  let h6 := h5.push (.cells #[.string ⟨#[118, 97, 108, 117, 101, 32, 111, 117, 116, 32, 111, 102, 32, 114, 97, 110, 103, 101]⟩] 211)
  let h7 := h6.push (.cells #[.string ⟨#[105, 110, 118, 97, 108, 105, 100, 32, 115, 121, 110, 116, 97, 120]⟩] 211)
  let h8 := put h7 7 #[.iface 209 (.pointer (some ⟨n, 0, none⟩))]
  let h9 := put h8 6 #[.iface 209 (.pointer (some ⟨n + 1, 0, none⟩))]
  { w0 with heap := h9 }
set_option maxRecDepth 100000 in
theorem frame_met (os : Os) (args : Array Value) : laidMetH Tryd.prog frameList ((frameWorld os).forCall (fun _ _ => 0) ⟨#[], args, []⟩).memory := by
  unfold frameList
  rw [acc_eq, first_eq]
  exact (LaidIn.of_run (l := [("math/bits.deBruijn32tab", Rows.laid_math_bits_deBruijn32tab), ("math/bits.deBruijn64tab", Rows.laid_math_bits_deBruijn64tab), ("internal/strconv.uint64pow10", Rows.laid_internal_strconv_uint64pow10), ("unicode/utf8.acceptRanges", Lib.acceptData), ("strconv.ErrRange", Rows.laid_strconv_ErrRange), ("strconv.ErrSyntax", Rows.laid_strconv_ErrSyntax), ("unicode/utf8.first", Lib.firstData)]) (List.range 40) 8 (by kernel_rfl) (by kernel_rfl) (by kernel_rfl) (by kernel_rfl)).met
end laidW
end Go.Proofs.YtccljojceoidhaaDoor
/-
  WHAT THE ROW's LIST of WireFeeds GIVES A WALK: as LaidW, and errors.errorType; a world that meets it.
-/
namespace Go.Proofs.YtccljojceoidhaaDoor
open Go.ChangeShapes Go.WideShapes Go.RowKit

namespace laidW
theorem et : Tryd.prog.globalNamed "errors.errorType" = some 1 := by kernel_rfl
theorem rt : (Tryd.prog.cutTypes.find? (·.1 == "internal/reflectlite.rtype")).map (·.2) = some 158 := by kernel_rfl
theorem oneRow : ((List.range 239).filter fun t => Tryd.prog.rowNamed t [101, 114, 114, 111, 114]) = [27] := by kernel_rfl
theorem tsize : Tryd.prog.types.size = 239 := by kernel_rfl
theorem errT_of {W : World} (h : handlesMet Tryd.prog [("errors.errorType", Rows.laid_errors_errorType)] W) : ErrT W := by
  obtain ⟨name, u, ty, e1, e2, e3, e4, e5⟩ := h _ (List.mem_singleton.2 rfl)
  have en : name = [101, 114, 114, 111, 114] := (Option.some.inj e1).symm
  subst en
  obtain rfl := Option.some.inj (rt.symm.trans e2)
  have hm : ty ∈ (List.range 239).filter fun t => Tryd.prog.rowNamed t [101, 114, 114, 111, 114] := List.mem_filter.2 ⟨List.mem_range.2 (by rw [← tsize]; exact e3), e4⟩
  rw [oneRow] at hm
  obtain rfl := List.mem_singleton.1 hm
  have hh : typeHandle Tryd.prog 27 = .pointer (some ⟨10, 27, none⟩) := by kernel_rfl
  rw [hh] at e5
  unfold ErrT
  simpa using World.var?_cell et e5 0

abbrev feedsList : List (String × DataW Unit) := [("math/bits.deBruijn32tab", Rows.laid_math_bits_deBruijn32tab), ("math/bits.deBruijn64tab", Rows.laid_math_bits_deBruijn64tab), ("internal/strconv.uint64pow10", Rows.laid_internal_strconv_uint64pow10), ("unicode/utf8.acceptRanges", Rows.laid_unicode_utf8_acceptRanges), ("errors.errorType", Rows.laid_errors_errorType), ("strconv.ErrRange", Rows.laid_strconv_ErrRange), ("strconv.ErrSyntax", Rows.laid_strconv_ErrSyntax), ("unicode/utf8.first", Rows.laid_unicode_utf8_first)]
theorem feeds_of {W : World} (h : laidMetH Tryd.prog feedsList W) : ErrT W :=
  errT_of (show laidMet Tryd.prog frameList W ∧ handlesMet Tryd.prog [("errors.errorType", Rows.laid_errors_errorType)] W from h).2
/-- A world that meets the condition. -/
noncomputable def feedsWorld (os : Os) : World :=
  let w0 := frameWorld os
  { w0 with heap := w0.heap.modify 1 fun
      | .cells _ t frozen => .cells #[.iface 158 (.agg #[.pointer (some ⟨10, 27, none⟩)])] t frozen
      | o => o }
set_option maxRecDepth 100000 in
theorem feeds_met0 (os : Os) (args : Array Value) : laidMet Tryd.prog frameList ((feedsWorld os).forCall (fun _ _ => 0) ⟨#[], args, []⟩).memory := by
  unfold frameList
  rw [acc_eq, first_eq]
  exact (LaidIn.of_run (l := [("math/bits.deBruijn32tab", Rows.laid_math_bits_deBruijn32tab), ("math/bits.deBruijn64tab", Rows.laid_math_bits_deBruijn64tab), ("internal/strconv.uint64pow10", Rows.laid_internal_strconv_uint64pow10), ("unicode/utf8.acceptRanges", Lib.acceptData), ("strconv.ErrRange", Rows.laid_strconv_ErrRange), ("strconv.ErrSyntax", Rows.laid_strconv_ErrSyntax), ("unicode/utf8.first", Lib.firstData)]) (List.range 40) 8 (by kernel_rfl) (by kernel_rfl) (by kernel_rfl) (by kernel_rfl)).met
theorem feeds_met (os : Os) (args : Array Value) : laidMetH Tryd.prog feedsList ((feedsWorld os).forCall (fun _ _ => 0) ⟨#[], args, []⟩).memory :=
  laidMetH_of_parts (show laidMet Tryd.prog frameList _ from feeds_met0 os args) (by kernel_rfl)
end laidW
end Go.Proofs.YtccljojceoidhaaDoor
/-
  WHAT THE ROW's LIST of the laws of tokens GIVES A WALK: as LaidW, and lex.words; a world that meets it.
-/
namespace Go.Proofs.YtccljojceoidhaaDoor
open Go.ChangeShapes Go.WideShapes Go.RowKit

namespace laidW
abbrev lexList : List (String × DataW Unit) := [("math/bits.deBruijn32tab", Rows.laid_math_bits_deBruijn32tab), ("math/bits.deBruijn64tab", Rows.laid_math_bits_deBruijn64tab), ("internal/strconv.uint64pow10", Rows.laid_internal_strconv_uint64pow10), ("unicode/utf8.acceptRanges", Rows.laid_unicode_utf8_acceptRanges), ("strconv.ErrRange", Rows.laid_strconv_ErrRange), ("strconv.ErrSyntax", Rows.laid_strconv_ErrSyntax), ("amanuensis/lex.words", Rows.laid_amanuensis_lex_words), ("unicode/utf8.first", Rows.laid_unicode_utf8_first)]
theorem t8_of {l : List (String × DataW Unit)} {W : World} (h : laidMet Tryd.prog l W) (h1 : ("unicode/utf8.acceptRanges", Rows.laid_unicode_utf8_acceptRanges) ∈ l) (h2 : ("unicode/utf8.first", Rows.laid_unicode_utf8_first) ∈ l) : T8 W := by
  rw [acc_eq] at h1
  rw [first_eq] at h2
  exact utf8Tabs_of_reads (ρ := Tryd.lays197_ren) { Tryd.lays197 with } ⟨by kernel_rfl, by kernel_rfl, by kernel_rfl, by kernel_rfl, by kernel_rfl, by kernel_rfl, by kernel_rfl⟩ (Lib.laidMet.reads h h2) (Lib.laidMet.reads h h1)
theorem gW : Tryd.prog.globalNamed "amanuensis/lex.words" = some 0 := by kernel_rfl
/-- the cells of an array of strings that reads as these -/
theorem cells_of_strs {H : Type} {enc : TypeId × Value → H} {P : Program} {w : World} {base : Nat} {sp : Nat → Bool} {held : Bool} {fuel : Nat} {t e : TypeId} {n : Nat} {cs : List Value} {zs : List Bs} {p : List MemPlace}
    (ht : P.underlying t = some (.array n e)) (he : P.underlying e = some .string) (hce : P.cellsOf e = 1) (hct : P.cellsOf t = n)
    (h : DataW.trod enc P w base sp held fuel t cs = some (.agg (zs.map fun z => .lit (.string z)), p)) : cs = txtV zs := by
  cases fuel with
  | zero => simp [DataW.trod] at h
  | succ fuel =>
    simp only [DataW.trod, ht, hce, hct, Nat.mul_one] at h
    split at h
    · rename_i hl
      obtain ⟨xs, hm, hx⟩ := Option.map_eq_some_iff.1 h
      have hxs : xs.map (·.1) = zs.map fun z => (DataW.lit (.string z) : DataW H) := by
        have := congrArg Prod.fst hx
        simpa using this
      have hxl : xs.length = n := by simpa using Lib.mapM_length hm
      have hzl : zs.length = n := by
        have := congrArg List.length hxs
        simp at this
        omega
      apply List.ext_getElem?
      intro i
      by_cases hi : i < n
      · obtain ⟨b, hb, hf⟩ := Lib.mapM_at hm i i (by simp [hi])
        obtain ⟨z, hc, rfl, _⟩ := DataW.trod_string he hf
        have h1 : cs[i]? = some (.string z) := by
          have := congrArg (·[0]?) hc
          simpa [List.getElem?_take, List.getElem?_drop] using this
        have h2 : (xs.map (·.1))[i]? = some (DataW.lit (.string z.data.toList) : DataW H) := by simp [hb]
        rw [hxs] at h2
        simp only [List.getElem?_map, Option.map_eq_some_iff, DataW.lit.injEq, Lit.string.injEq] at h2
        obtain ⟨z', hz', h3⟩ := h2
        rw [h1]
        simp only [txtV, List.getElem?_map, hz', Option.map_some, h3, strV]
      · rw [List.getElem?_eq_none (by omega), List.getElem?_eq_none (by rw [txtV_len]; omega)]
    · cases h
theorem words_eq : (Rows.laid_amanuensis_lex_words : DataW Unit) = .agg (Lx.words.map fun z => .lit (.string z)) := by kernel_rfl
theorem words_of {l : List (String × DataW Unit)} {W : World} (h : laidMet Tryd.prog l W) (h1 : ("amanuensis/lex.words", Rows.laid_amanuensis_lex_words) ∈ l) : WordsIs W := by
  obtain ⟨g, t, cs, fuel, p, e1, e2, e3, e4⟩ := Lib.laidMet.reads h h1
  obtain rfl := Option.some.inj (gW.symm.trans e1)
  have e5 : (Tryd.prog.globals[0]?).map (·.type) = some 92 := by kernel_rfl
  obtain rfl := Option.some.inj (e5.symm.trans e2)
  rw [words_eq] at e4
  have hc := cells_of_strs (n := 12) Tryd.underlying92 Tryd.underlying9 (by kernel_rfl) (by kernel_rfl) e4
  have hcell : ∀ i, W.cell? ⟨0, i, none⟩ = (txtV Lx.words)[i]? := fun i => by
    rw [World.var?_cell gW e3 i, ← hc]; simp
  refine ⟨by kernel_rfl, fun _ => ⟨_, 0, rfl, ?_, fun i u hu => by rw [Nat.zero_add, hcell]; exact hu⟩⟩
  exact World.block_lt_of_cell? (a := ⟨0, 0, none⟩) W (hcell 0)
theorem lex_of {W : World} (h : laidMetH Tryd.prog lexList W) : T8 W ∧ WordsIs W :=
  have h' : laidMet Tryd.prog lexList W := h
  ⟨t8_of h' (by simp [lexList]) (by simp [lexList]), words_of h' (by simp [lexList])⟩

/-- A world that meets the condition. -/
noncomputable def lexWorld (os : Os) : World :=
  let w0 := frameWorld os
  { w0 with heap := w0.heap.modify 0 fun
      | .cells _ t frozen => .cells (txtV Lx.words).toArray t frozen
      | o => o }
set_option maxRecDepth 100000 in
theorem lex_met (os : Os) (args : Array Value) : laidMetH Tryd.prog lexList ((lexWorld os).forCall (fun _ _ => 0) ⟨#[], args, []⟩).memory := by
  unfold lexList
  rw [acc_eq, first_eq]
  exact (LaidIn.of_run (l := [("math/bits.deBruijn32tab", Rows.laid_math_bits_deBruijn32tab), ("math/bits.deBruijn64tab", Rows.laid_math_bits_deBruijn64tab), ("internal/strconv.uint64pow10", Rows.laid_internal_strconv_uint64pow10), ("unicode/utf8.acceptRanges", Lib.acceptData), ("strconv.ErrRange", Rows.laid_strconv_ErrRange), ("strconv.ErrSyntax", Rows.laid_strconv_ErrSyntax), ("amanuensis/lex.words", Rows.laid_amanuensis_lex_words), ("unicode/utf8.first", Lib.firstData)]) (List.range 40) 8 (by kernel_rfl) (by kernel_rfl) (by kernel_rfl) (by kernel_rfl)).met
end laidW
end Go.Proofs.YtccljojceoidhaaDoor
/-
  WHAT THE ROW's LIST GIVES A WALK: the table of trailing zeros.
-/
namespace Go.Proofs.YtccljojceoidhaaDoor
open Go.ChangeShapes Go.WideShapes Go.RowKit

namespace laidW
def dbTab : List Int := [0, 1, 56, 2, 57, 49, 28, 3, 61, 58, 42, 50, 38, 29, 17, 4, 62, 47, 59, 36, 45, 43, 51, 22, 53, 39, 33, 30, 24, 18, 12, 5, 63, 55, 48, 27, 60, 41, 37, 16, 46, 35, 44, 21, 52, 32, 23, 11, 54, 26, 40, 15, 34, 20, 31, 10, 25, 14, 19, 9, 13, 8, 7, 6]
theorem db_eq : (Rows.laid_math_bits_deBruijn64tab : DataW Unit) = Lib.tabData .u8 dbTab := by kernel_rfl
theorem gD : Tryd.prog.globalNamed "math/bits.deBruijn64tab" = some 9 := by kernel_rfl
theorem db_of {l : List (String × DataW Unit)} {W : World} (h : laidMet Tryd.prog l W) (h1 : ("math/bits.deBruijn64tab", Rows.laid_math_bits_deBruijn64tab) ∈ l) : DB W := by
  obtain ⟨g, t, cs, fuel, p, e1, e2, e3, e4⟩ := Lib.laidMet.reads h h1
  obtain rfl := Option.some.inj (gD.symm.trans e1)
  have e5 : (Tryd.prog.globals[9]?).map (·.type) = some 208 := by kernel_rfl
  obtain rfl := Option.some.inj (e5.symm.trans e2)
  rw [db_eq] at e4
  have hc := Lib.cells_of_tab (n := 64) Tryd.underlying208 Tryd.underlying5 (by kernel_rfl) (by kernel_rfl) e4
  show W.cell? _ = _
  rw [World.var?_cell gD e3 15, ← Array.getElem?_toList, hc]
  rfl
end laidW
end Go.Proofs.YtccljojceoidhaaDoor
/-
  WHAT THE ROW's LIST of WirePrints GIVES A WALK.
-/
namespace Go.Proofs.YtccljojceoidhaaDoor
open Go.ChangeShapes Go.WideShapes Go.RowKit

namespace laidW
abbrev printList : List (String × DataW Unit) := [("math/bits.deBruijn32tab", Rows.laid_math_bits_deBruijn32tab), ("math/bits.deBruijn64tab", Rows.laid_math_bits_deBruijn64tab), ("internal/strconv.uint64pow10", Rows.laid_internal_strconv_uint64pow10), ("errors.errorType", Rows.laid_errors_errorType)]
abbrev printPlain : List (String × DataW Unit) := [("math/bits.deBruijn32tab", Rows.laid_math_bits_deBruijn32tab), ("math/bits.deBruijn64tab", Rows.laid_math_bits_deBruijn64tab), ("internal/strconv.uint64pow10", Rows.laid_internal_strconv_uint64pow10)]
theorem print_of {W : World} (h : laidMetH Tryd.prog printList W) : Tab10 W ∧ DB W ∧ ErrT W := by
  have h' : laidMet Tryd.prog printPlain W ∧ handlesMet Tryd.prog [("errors.errorType", Rows.laid_errors_errorType)] W := h
  exact ⟨tab10_of (laidMet.tail (laidMet.tail h'.1)), db_of (l := printPlain) h'.1 (by simp [printPlain]), errT_of h'.2⟩
set_option maxRecDepth 100000 in
theorem print_met0 (os : Os) (args : Array Value) : laidMet Tryd.prog printPlain ((feedsWorld os).forCall (fun _ _ => 0) ⟨#[], args, []⟩).memory :=
  (LaidIn.of_run (l := printPlain) (List.range 40) 8 (by kernel_rfl) (by kernel_rfl) (by kernel_rfl) (by kernel_rfl)).met
theorem print_met (os : Os) (args : Array Value) : laidMetH Tryd.prog printList ((feedsWorld os).forCall (fun _ _ => 0) ⟨#[], args, []⟩).memory :=
  laidMetH_of_parts (show laidMet Tryd.prog printPlain _ from print_met0 os args) (by kernel_rfl)
end laidW
end Go.Proofs.YtccljojceoidhaaDoor
