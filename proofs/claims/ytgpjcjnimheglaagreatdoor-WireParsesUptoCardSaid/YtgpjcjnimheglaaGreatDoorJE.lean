/-
  JOINED of the texts ErrV ToldQ NQ OE OF
-/
import Derived.Test.YtgpjcjnimheglaaGreatDoorBase
import Derived.LaidEql
import Derived.Stop.Asserts
import Derived.RowKitTokens
import Derived.Test.YtgpjcjnimheglaaGreatDoorJC
import Derived.Recover
import Derived.RegionTactic
import Derived.ChangeAlike
import Derived.Test.YtgpjcjnimheglaaGreatDoorJD
/-
  ERRORS by their numbers.
-/
namespace Go.Proofs.YtgpjcjnimheglaaGreatDoor
/-- an error as package api has them -/
def errV : Nat → Value
  | 0 => .nilIface
  | k => .iface 64 (.int .i64 k)
end Go.Proofs.YtgpjcjnimheglaaGreatDoor
/-
  plain.Told, and errors.As at a target of type *api.Errno (after the guide's worked example Toyas): the number of an error; Error of package amanuensissame.
-/
namespace Go.Proofs.YtgpjcjnimheglaaGreatDoor
open Go.RowKit Go.Extern.Stop Go.Stop Go.Extern

set_option maxRecDepth 100000 in
theorem as_nil (t : Value) (w : World) :
    Calls Tryz.prog 63 #[.nilIface, t] w fun e w' => e = .returned (.bool false) ∧ w' = w := by
  go_enter Tryz.func63, Tryz.ntmps63
  go_wp2
  go_ret
  exact ⟨rfl, rfl⟩

theorem as_valueOfP (t : Addr) (w : World) : (ReflectliteValue.unpack (.iface 147 (.pointer (some t)))).run Tryz.prog w
    = .ok (.agg #[.pointer (some ⟨10, 147, none⟩), .pointer (some ⟨w.heap.size, 0, none⟩), .int .u64 150]) (w.alloc (.cells #[.pointer (some t)] 147)) := by kernel_rfl
theorem as_typeP (a : Addr) (w : World) : (ReflectliteValue.methodAny (ReflectliteValue.valueError "reflectlite.Value.Type" 0) (fun t _ _ _ => ReflectliteType.toType t) #[.agg #[.pointer (some ⟨10, 147, none⟩), .pointer (some a), .int .u64 150]]).run Tryz.prog w
    = .ok (.iface 208 (.agg #[.pointer (some ⟨10, 147, none⟩)])) w := by kernel_rfl
theorem as_methodKind (h : Value) (w : World) : (Go.method 419 208 (.agg #[h]) "Kind").run Tryz.prog w = .ok (232, h) w := by kernel_rfl
theorem as_kindP (w : World) : ((ReflectliteType.abiMethod fun t => (fun a : Nat => Value.int IntKind.u8 (a : Int)) <$> Rtype.kind t) #[.pointer (some ⟨10, 147, none⟩)]).run Tryz.prog w = .ok (.int .u8 22) w := by kernel_rfl
theorem as_kindE (w : World) : ((ReflectliteType.abiMethod fun t => (fun a : Nat => Value.int IntKind.u8 (a : Int)) <$> Rtype.kind t) #[.pointer (some ⟨10, 64, none⟩)]).run Tryz.prog w = .ok (.int .u8 2) w := by kernel_rfl
theorem as_rlm (z : Sem Value) (f : TypeId → Addr → Nat → Nat → Sem Value) (v : Value) :
    ReflectliteValue.method z f #[v] = (do match ← ReflectliteValue.parts v with | none => z | some (t, a, fl) => f t a fl (fl % 32)) := rfl
theorem as_partsP (a : Addr) (w : World) : (ReflectliteValue.parts (.agg #[.pointer (some ⟨10, 147, none⟩), .pointer (some a), .int .u64 150])).run Tryz.prog w = .ok (some (147, a, 150)) w := by kernel_rfl
theorem as_isNilP (a p : Addr) (W : World) (ha : W.cell? a = some (.pointer (some p))) :
    (ReflectliteValue.method (ReflectliteValue.valueError "reflectlite.Value.IsNil" 0) ReflectliteValue.isNil #[.agg #[.pointer (some ⟨10, 147, none⟩), .pointer (some a), .int .u64 150]]).run Tryz.prog W = .ok (.bool false) W := by
  rw [as_rlm]
  simp only [Sem.run_bind, as_partsP, Result.andThen]
  simp [ReflectliteValue.isNil, loadVar, isAgg, underlying, Tryz.underlying147, ha, Result.andThen]
theorem as_methodElem (h : Value) (w : World) : (Go.method 419 208 (.agg #[h]) "Elem").run Tryz.prog w = .ok (252, .agg #[h]) w := by kernel_rfl
theorem as_methodImplements (h : Value) (w : World) : (Go.method 419 208 (.agg #[h]) "Implements").run Tryz.prog w = .ok (253, .agg #[h]) w := by kernel_rfl
theorem as_methodAssignableTo (h : Value) (w : World) : (Go.method 419 208 (.agg #[h]) "AssignableTo").run Tryz.prog w = .ok (250, .agg #[h]) w := by kernel_rfl
theorem as_elemP (w : World) : (ReflectliteType.method ReflectliteType.elem #[.agg #[.pointer (some ⟨10, 147, none⟩)]]).run Tryz.prog w = .ok (.iface 208 (.agg #[.pointer (some ⟨10, 64, none⟩)])) w := by kernel_rfl
theorem as_implementsE (w : World) : (ReflectliteType.relation "Implements" ReflectliteType.implements_ #[.agg #[.pointer (some ⟨10, 64, none⟩)], .iface 208 (.agg #[.pointer (some ⟨10, 28, none⟩)])]).run Tryz.prog w = .ok (.bool true) w := by kernel_rfl
theorem as_typeOfE (v : Value) (w : World) : (ReflectliteType.typeOf #[.iface 64 v]).run Tryz.prog w = .ok (.iface 208 (.agg #[.pointer (some ⟨10, 64, none⟩)])) w := by kernel_rfl
theorem as_assignableE (w : World) : (ReflectliteType.relation "AssignableTo" ReflectliteType.assignableTo #[.agg #[.pointer (some ⟨10, 64, none⟩)], .iface 208 (.agg #[.pointer (some ⟨10, 64, none⟩)])]).run Tryz.prog w = .ok (.bool true) w := by kernel_rfl
theorem as_valueOfE (n : Int) (w : World) : (ReflectliteValue.unpack (.iface 64 (.int .i64 n))).run Tryz.prog w
    = .ok (.agg #[.pointer (some ⟨10, 64, none⟩), .pointer (some ⟨w.heap.size, 0, none⟩), .int .u64 130]) (w.alloc (.cells #[.int .i64 n] 64)) := by kernel_rfl
theorem as_elemOfP (w : World) : (Rtype.elem? 147).run Tryz.prog w = .ok (some 64) w := by kernel_rfl
theorem as_mkE (p : Addr) (w : World) : (ReflectliteValue.mk 64 p ReflectliteValue.flagAddr).run Tryz.prog w = .ok (.agg #[.pointer (some ⟨10, 64, none⟩), .pointer (some p), .int .u64 386]) w := by kernel_rfl
theorem as_elemVP (a p : Addr) (W : World) (ha : W.cell? a = some (.pointer (some p))) :
    (ReflectliteValue.method (ReflectliteValue.valueError "reflectlite.Value.Elem" 0) ReflectliteValue.elem #[.agg #[.pointer (some ⟨10, 147, none⟩), .pointer (some a), .int .u64 150]]).run Tryz.prog W
      = .ok (.agg #[.pointer (some ⟨10, 64, none⟩), .pointer (some p), .int .u64 386]) W := by
  rw [as_rlm]
  simp only [Sem.run_bind, as_partsP, Result.andThen]
  simp [ReflectliteValue.elem, loadVar, isAgg, underlying, Tryz.underlying147, ha, Result.andThen, as_elemOfP, as_mkE]
theorem as_rls (v x : Value) : ∃ (s1 s2 s3 s4 s5 : String), ReflectliteValue.set #[v, x] = (do
    let (some (dst, a, fl), some (src, b, _)) := (← ReflectliteValue.parts v, ← ReflectliteValue.parts x)
      | unsupported (.noEntry s1)
    if fl / ReflectliteValue.flagAddr % 2 == 0 then unsupported (.noEntry s2)
    let val ← loadVar src b
    if ← Rtype.directlyAssignable dst src then storeVar dst a val
    else if ← Rtype.implements dst src then
      if (← Rtype.kind src) == 20 then
        match val with
        | .nilIface => unsupported (.noEntry s3)
        | _ => storeVar dst a val
      else storeVar dst a (.iface src val)
    else panicString (s4 ++ (← Rtype.spelt src) ++ s5 ++ (← Rtype.spelt dst))
    pure (.tuple #[])) := ⟨_, _, _, _, _, rfl⟩
theorem as_partsEa (a : Addr) (w : World) : (ReflectliteValue.parts (.agg #[.pointer (some ⟨10, 64, none⟩), .pointer (some a), .int .u64 386])).run Tryz.prog w = .ok (some (64, a, 386)) w := by kernel_rfl
theorem as_partsE (a : Addr) (w : World) : (ReflectliteValue.parts (.agg #[.pointer (some ⟨10, 64, none⟩), .pointer (some a), .int .u64 130])).run Tryz.prog w = .ok (some (64, a, 130)) w := by kernel_rfl
theorem as_directE (w : World) : (Rtype.directlyAssignable 64 64).run Tryz.prog w = .ok true w := by kernel_rfl
theorem as_setE (ta b : Addr) (n : Int) (old : Value) (W : World) (hb : W.cell? b = some (.int .i64 n)) (ht : W.cell? ta = some old) (hf : W.frozen? ta = false) :
    (ReflectliteValue.set #[.agg #[.pointer (some ⟨10, 64, none⟩), .pointer (some ta), .int .u64 386], .agg #[.pointer (some ⟨10, 64, none⟩), .pointer (some b), .int .u64 130]]).run Tryz.prog W
      = .ok (.tuple #[]) (W.setCell ta (.int .i64 n)) := by
  obtain ⟨s1, s2, s3, s4, s5, he⟩ := as_rls (.agg #[.pointer (some ⟨10, 64, none⟩), .pointer (some ta), .int .u64 386]) (.agg #[.pointer (some ⟨10, 64, none⟩), .pointer (some b), .int .u64 130])
  rw [he]
  simp only [Sem.run_bind, as_partsEa, as_partsE, Result.andThen]
  simp [ReflectliteValue.flagAddr, loadVar, isAgg, underlying, Tryz.underlying64, hb, Result.andThen, as_directE, storeVar, Value.cells, storeCells, Addr.add]
  rw [run_store Tryz.prog W ta _ _ (by rfl)]
  simp [ht, hf]

/-- errors.errorType holds its handle -/
def ErrT (w : World) : Prop := w.cell? ⟨0, 0, none⟩ = some (.iface 208 (.agg #[.pointer (some ⟨10, 28, none⟩)]))
theorem ErrT.lt {w : World} (h : ErrT w) : 0 < w.heap.size := World.block_lt_of_cell? w ⟨0, 0, none⟩ h
theorem ErrT.below {w w' : World} {B : Nat} (h : ErrT w) (hb : Below B w w') (hB : 0 < B) : ErrT w' := (hb.cell (p := ⟨0, 0, none⟩) hB).trans h
theorem ErrT.size {w w' : World} (h : ErrT w) (hb : Below w.heap.size w w') : ErrT w' := h.below hb h.lt

set_option maxHeartbeats 4000000 in
set_option maxRecDepth 100000 in
theorem as_hit (n : Int) (tb : Nat) (old : Value) (w : World) (hg : ErrT w) (ht0 : w.cell? ⟨tb, 0, none⟩ = some old) (hf0 : w.frozen? ⟨tb, 0, none⟩ = false) :
    Calls Tryz.prog 63 #[.iface 64 (.int .i64 n), .iface 147 (.pointer (some ⟨tb, 0, none⟩))] w fun ev w' => ev = .returned (.bool true) ∧
      w' = ((((w.alloc (.cells #[.pointer (some ⟨tb, 0, none⟩)] 147)).alloc (.cells #[.pointer (some ⟨10, 147, none⟩), .pointer (some ⟨w.heap.size, 0, none⟩), .int .u64 150] 178)).alloc (.cells #[.pointer (some ⟨10, 147, none⟩), .pointer (some ⟨w.heap.size, 0, none⟩), .int .u64 150] 178)).alloc (.cells #[.int .i64 n] 64)).setCell ⟨tb, 0, none⟩ (.int .i64 n) := by
  have h6 := @run_callFunc_extern Tryz.prog 98 _ (fun args => ReflectliteValue.unpack (args.getD 0 (.tuple #[]))) Tryz.func98 (by kernel_rfl) (by kernel_rfl) (by kernel_rfl) (by kernel_rfl)
  have h7 := @run_callFunc_extern Tryz.prog 99 _ (ReflectliteValue.methodAny (ReflectliteValue.valueError "reflectlite.Value.Type" 0) (fun t _ _ _ => ReflectliteType.toType t)) Tryz.func99 (by kernel_rfl) (by kernel_rfl) (by kernel_rfl) (by kernel_rfl)
  have h8 := @run_callFunc_extern Tryz.prog 100 _ (ReflectliteValue.method (ReflectliteValue.valueError "reflectlite.Value.IsNil" 0) ReflectliteValue.isNil) Tryz.func100 (by kernel_rfl) (by kernel_rfl) (by kernel_rfl) (by kernel_rfl)
  have h27 := @run_callFunc_extern Tryz.prog 232 _ (ReflectliteType.abiMethod fun t => do pure (.int .u8 (← Rtype.kind t))) Tryz.func232 (by kernel_rfl) (by kernel_rfl) (by kernel_rfl) (by kernel_rfl)
  have h37 := @run_callFunc_extern Tryz.prog 252 _ (ReflectliteType.method ReflectliteType.elem) Tryz.func252 (by kernel_rfl) (by kernel_rfl) (by kernel_rfl) (by kernel_rfl)
  have h38 := @run_callFunc_extern Tryz.prog 253 _ (ReflectliteType.relation "Implements" ReflectliteType.implements_) Tryz.func253 (by kernel_rfl) (by kernel_rfl) (by kernel_rfl) (by kernel_rfl)
  have h10 := @run_callFunc_extern Tryz.prog 133 _ ReflectliteType.typeOf Tryz.func133 (by kernel_rfl) (by kernel_rfl) (by kernel_rfl) (by kernel_rfl)
  have h35 := @run_callFunc_extern Tryz.prog 250 _ (ReflectliteType.relation "AssignableTo" ReflectliteType.assignableTo) Tryz.func250 (by kernel_rfl) (by kernel_rfl) (by kernel_rfl) (by kernel_rfl)
  have h11 := @run_callFunc_extern Tryz.prog 134 _ (ReflectliteValue.method (ReflectliteValue.valueError "reflectlite.Value.Elem" 0) ReflectliteValue.elem) Tryz.func134 (by kernel_rfl) (by kernel_rfl) (by kernel_rfl) (by kernel_rfl)
  have h12 := @run_callFunc_extern Tryz.prog 135 _ ReflectliteValue.set Tryz.func135 (by kernel_rfl) (by kernel_rfl) (by kernel_rfl) (by kernel_rfl)
  have tO := as_typeOfE
  have mA := as_methodAssignableTo
  have a25 := as_assignableE
  have v25 := as_valueOfE
  have f6 := as_valueOfP
  have f7 := as_typeP
  have mK := as_methodKind
  have mE := as_methodElem
  have mI := as_methodImplements
  have k27 := as_kindP
  have k25 := as_kindE
  have e27 := as_elemP
  have i25 := as_implementsE
  have n8 := as_isNilP ⟨w.heap.size, 0, none⟩ ⟨tb, 0, none⟩ ((w.alloc (.cells #[.pointer (some ⟨tb, 0, none⟩)] 147)).alloc (.cells #[.pointer (some ⟨10, 147, none⟩), .pointer (some ⟨w.heap.size, 0, none⟩), .int .u64 150] 178)) (by simp)
  have hlt := hg.lt
  have hg2 : ((w.alloc (.cells #[.pointer (some ⟨tb, 0, none⟩)] 147)).alloc (.cells #[.pointer (some ⟨10, 147, none⟩), .pointer (some ⟨w.heap.size, 0, none⟩), .int .u64 150] 178)).cell? ⟨0, 0, none⟩ = some (.iface 208 (.agg #[.pointer (some ⟨10, 28, none⟩)])) := by
    rw [cell_alloc _ _ _ _ (by simp <;> omega), cell_alloc _ _ _ _ hlt]; exact hg
  have htl : tb < w.heap.size := World.block_lt_of_cell? w ⟨tb, 0, none⟩ ht0
  have el := as_elemVP ⟨w.heap.size, 0, none⟩ ⟨tb, 0, none⟩ (((w.alloc (.cells #[.pointer (some ⟨tb, 0, none⟩)] 147)).alloc (.cells #[.pointer (some ⟨10, 147, none⟩), .pointer (some ⟨w.heap.size, 0, none⟩), .int .u64 150] 178)).alloc (.cells #[.pointer (some ⟨10, 147, none⟩), .pointer (some ⟨w.heap.size, 0, none⟩), .int .u64 150] 178)) (by rw [cell_alloc _ _ _ _ (by simp; omega)]; simp)
  have st := as_setE ⟨tb, 0, none⟩ ⟨w.heap.size + 1 + 1 + 1, 0, none⟩ n old ((((w.alloc (.cells #[.pointer (some ⟨tb, 0, none⟩)] 147)).alloc (.cells #[.pointer (some ⟨10, 147, none⟩), .pointer (some ⟨w.heap.size, 0, none⟩), .int .u64 150] 178)).alloc (.cells #[.pointer (some ⟨10, 147, none⟩), .pointer (some ⟨w.heap.size, 0, none⟩), .int .u64 150] 178)).alloc (.cells #[.int .i64 n] 64))
    (by rw [World.cell?_alloc_at (hn := by simp)]; rfl)
    (by rw [cell_alloc _ _ _ _ (by simp; omega), cell_alloc _ _ _ _ (by simp; omega), cell_alloc _ _ _ _ (by simp; omega), cell_alloc _ _ _ _ htl]; exact ht0)
    (by rw [frozen_alloc _ _ _ _ (by simp; omega), frozen_alloc _ _ _ _ (by simp; omega), frozen_alloc _ _ _ _ (by simp; omega), frozen_alloc _ _ _ _ htl]; exact hf0)
  unfold ErrT at hg
  go_enter Tryz.func63, Tryz.ntmps63
  go_wp2
  refine wp_loop_rounds 1 ?_
  rw [rounds_succ]
  go_wp2
  go_ret
  exact ⟨rfl, rfl⟩

set_option maxRecDepth 100000 in
theorem told_nil (w : World) : Calls Tryz.prog 34 #[.nilIface] w fun e w' => e = .returned (.int .i64 0) ∧ Below w.heap.size w w' := by
  go_enter Tryz.func34, Tryz.ntmps34
  go_wp2
  go_ret
  exact ⟨rfl, Below.refl _ _⟩

set_option maxRecDepth 100000 in
theorem told_err (n : Int) (w : World) (hg : ErrT w) : Calls Tryz.prog 34 #[.iface 64 (.int .i64 n)] w fun e w' => e = .returned (.int .i64 n) ∧ Below w.heap.size w w' := by
  have hA : Below w.heap.size w (w.alloc (.cells #[.int .i64 0] 64)) := (Below.refl _ _).alloc (Nat.le_refl _) _
  have hgA := hg.size hA
  have htA : (w.alloc (.cells #[.int .i64 0] 64)).cell? ⟨w.heap.size, 0, none⟩ = some (.int .i64 0) := by simp
  have hfA : (w.alloc (.cells #[.int .i64 0] 64)).frozen? ⟨w.heap.size, 0, none⟩ = false := by simp
  have hh := as_hit n w.heap.size _ _ hgA htA hfA
  have Hh := Lib.hid hh
  clear hh htA hfA hgA
  go_enter Tryz.func34, Tryz.ntmps34
  go_wp2_with fail
  refine Hh.out.mono ?_
  rintro e w' ⟨rfl, rfl⟩
  go_wp2
  go_ret
  exact ⟨rfl, (((((Below.refl _ _).alloc (Nat.le_refl _) _).alloc (by simp) _).alloc (by simp; omega) _).alloc (by simp; omega) _).alloc (by simp; omega) _⟩

theorem told_walk (k : Nat) (w : World) (hg : ErrT w) : Calls Tryz.prog 34 #[errV k] w fun e w' => e = .returned (.int .i64 k) ∧ Below w.heap.size w w' := by
  cases k with
  | zero => exact told_nil w
  | succ k => exact told_err _ w hg

set_option maxRecDepth 100000 in
/-- Error of package amanuensissame -/
theorem error_yes (k : Nat) (n : Int) (w : World) (hg : ErrT w) (hk : (k : Int) = n) : Calls Tryz.prog 11 #[errV k, .int .i64 n] w fun e w' => e = .returned (.bool true) ∧ Below w.heap.size w w' := by
  subst hk
  go_enter Tryz.func11, Tryz.ntmps11
  go_wp2_with fail
  refine (told_walk k _ hg).mono ?_
  rintro e w1 ⟨rfl, hb1⟩
  go_wp2
  go_ret
  exact ⟨by simp, hb1⟩
set_option maxRecDepth 100000 in
theorem error_no (k : Nat) (n : Int) (w : World) (hg : ErrT w) (hk : (k : Int) ≠ n) : Calls Tryz.prog 11 #[errV k, .int .i64 n] w fun e w' => e = .returned (.bool false) ∧ Below w.heap.size w w' := by
  have h : ((k : Int) == n) = false := by simpa using hk
  clear hk
  go_enter Tryz.func11, Tryz.ntmps11
  go_wp2_with fail
  refine (told_walk k _ hg).mono ?_
  rintro e w1 ⟨rfl, hb1⟩
  go_wp2
  go_ret
  exact ⟨by simp, hb1⟩
end Go.Proofs.YtgpjcjnimheglaaGreatDoor
/-
  WALKS of package wire: Parse, and the deferred closure that recovers.
-/
namespace Go.Proofs.YtgpjcjnimheglaaGreatDoor
open Go.RowKit

/-- Parse's boxes -/
structure PBox (w : World) (bj ba be : Nat) (cj : Array Value) (p : Int) (v : Value) : Prop where
  j : Blk w bj 70 cj
  a : Blk w ba 3 #[.int .i64 p]
  e : Blk w be 28 #[v]
set_option maxRecDepth 100000 in
/-- nothing to recover -/
theorem parse_idle {bj ba be : Nat} (w : World) :
    CallsD Tryz.prog 55 #[.pointer (some ⟨bj, 0, none⟩), .pointer (some ⟨ba, 0, none⟩), .pointer (some ⟨be, 0, none⟩)] .returning w fun e u' w' => e = .returned (.tuple #[]) ∧ u' = .returning ∧ w' = w := by
  refine callsD_of_wpS Tryz.func55 rfl fun c₀ cs hu => ?_
  apply wpS_seq
  apply wpS_region
  simp [wpOpsS, go_sem, Tryz.ntmps55, recoverD, hu, Exit.thenS]
  apply wpS_seq
  apply wpS_region
  simp [wpOpsS, go_sem, Exit.thenS]
  refine wpS_cond (t := false) (by simp [Act.eval, Array.replicate]) ?_
  simp only [Bool.false_eq_true, if_false]
  refine wpS_of_wp (wp_skip ?_)
  cases c₀
  simp_all [bodyPostS, results, Tryz.results55]
theorem fault_assert (p er : Int) (xT : TypeId) (w : World) : Sem.run Tryz.prog (Instr.typeAssert (.iface 133 (.agg #[.int .i64 p, .int .i64 er])) xT 133 true) w = .ok (.tuple #[.agg #[.int .i64 p, .int .i64 er], .bool true]) w := by
  simp [Instr.typeAssert, run_underlying Tryz.underlying133, go_sem, Result.andThen]
/-- the rest comes to its end -/
def RestP (F : World → Prop) (e : Exit) (a : Act) (w : World) : Prop :=
  match e with
  | .normal => a.defers = [] ∧ F w
  | _ => False
theorem RestP.normal {F : World → Prop} {a : Act} {w : World} (h : a.defers = []) (hF : F w) : RestP F .normal a w := ⟨h, hF⟩
set_option maxHeartbeats 4000000 in
set_option maxRecDepth 100000 in
/-- a fault is recovered -/
theorem parse_restore {w : World} {bj ba be : Nat} {a0 a1 a2 a3 a4 : Value} {p0 : Int} {v0 : Value} (h : PBox w bj ba be #[a0, a1, a2, a3, a4] p0 v0) (p er : Nat) :
    CallsD Tryz.prog 55 #[.pointer (some ⟨bj, 0, none⟩), .pointer (some ⟨ba, 0, none⟩), .pointer (some ⟨be, 0, none⟩)] (.panicking (faultC p er)) w fun e u' w' =>
      e = .returned (.tuple #[]) ∧ u' = .panicking [{ v := faultV p er, recovered := true }] ∧ PBox w' bj ba be (jz 0 0 []) p (.iface 64 (.int .i64 er)) ∧ (∀ B, B ≤ bj → B ≤ ba → B ≤ be → B ≤ w.heap.size → Below B w w') := by
  refine callsD_of_wpS Tryz.func55 rfl fun c₀ cs hu => ?_
  unfold faultC faultV at hu
  apply wpS_seq
  apply wpS_region
  simp [wpOpsS, go_sem, Tryz.ntmps55, recoverD, hu, Exit.thenS]
  apply wpS_seq
  apply wpS_region
  simp [wpOpsS, go_sem, Exit.thenS]
  refine wpS_cond (t := true) (by simp [Act.eval, Array.replicate]) ?_
  simp only [if_true]
  refine wpS_of_wp ?_
  refine wp_mono (Q := RestP fun w' => PBox w' bj ba be (jz 0 0 []) p (.iface 64 (.int .i64 er)) ∧ (∀ B, B ≤ bj → B ≤ ba → B ≤ be → B ≤ w.heap.size → Below B w w')) ?_ ?_
  rotate_left
  · intro e a w' h
    cases e with
    | normal => exact ⟨h.1, _, rfl, _, by simp [results, Tryz.results55], rfl, rfl, h.2⟩
    | _ => exact h.elim
  simp only [Array.replicate_succ, Array.replicate_zero, List.push_toArray, List.append_toArray, List.nil_append, List.cons_append, List.setIfInBounds_toArray, List.set_cons_zero, List.set_cons_succ]
  have hta := fault_assert
  go_upto_region 5 with fail
  obtain ⟨bf, hbf⟩ : ∃ b, b = w.heap.size := ⟨_, rfl⟩
  rw [← hbf]
  have hBf : Blk (w.alloc (.cells #[.int .i64 p, .int .i64 er] 133)) bf 133 #[.int .i64 p, .int .i64 er] := by rw [hbf]; exact Blk.new _ _ _
  have hbl : Below w.heap.size w (w.alloc (.cells #[.int .i64 p, .int .i64 er] 133)) := (Below.refl _ _).alloc (Nat.le_refl _) _
  have hj := h.j.below hbl h.j.lt
  have ha := h.a.below hbl h.a.lt
  have he := h.e.below hbl h.e.lt
  have nj : bf ≠ bj := by have := h.j.lt; omega
  have na : bf ≠ ba := by have := h.a.lt; omega
  have ne : bf ≠ be := by have := h.e.lt; omega
  have hk : Hid (∀ B, B ≤ bj → B ≤ ba → B ≤ be → B ≤ w.heap.size → Below B w (w.alloc (.cells #[.int .i64 p, .int .i64 er] 133))) := fun B _ _ _ h4 => hbl.mono h4
  clear hbf hbl h hta hu
  generalize w.alloc (.cells #[.int .i64 p, .int .i64 er] 133) = wa at *
  refine wp_region_C (fun _ w' => w'.cell? ⟨bf, 0, none⟩ = some (.int .i64 p) ∧ w'.cell? ⟨bf, 1, none⟩ = some (.int .i64 er)) (by kernel_rfl) ?_
  have hBf1 := hBf.drew
  have hj1 := hj.drew
  have ha1 := ha.drew
  have he1 := he.drew
  have hk1 : Hid (∀ B, B ≤ bj → B ≤ ba → B ≤ be → B ≤ w.heap.size → Below B w wa.drew) := fun B h1 h2 h3 h4 => (hk.out B h1 h2 h3 h4).drew
  clear hBf hj ha he hk
  generalize World.drew wa = wb at *
  have d0 := hBf1.cell 0
  have d1 := hBf1.cell 1
  simp at d0 d1
  have hS0 : (fun w' : World => w'.cell? ⟨bf, 0, none⟩ = some (.int .i64 p) ∧ w'.cell? ⟨bf, 1, none⟩ = some (.int .i64 er)) wb := ⟨d0, d1⟩
  refine wpAnyC_take (fun w' : World => w'.cell? ⟨bf, 0, none⟩ = some (.int .i64 p) ∧ w'.cell? ⟨bf, 1, none⟩ = some (.int .i64 er)) [] (i := 0) (v := ?_) rfl (by kernel_rfl) (by kernel_rfl) (by kernel_rfl) (by kernel_rfl) (fun _ _ _ h => h) (fun _ _ _ _ _ h => h) (fun _ h => h) (Or.inl ⟨by rfl, ?_⟩) hS0 ?_; rotate_left; · (intro w hSw; (try dsimp only at hSw); obtain ⟨s0, s1⟩ := hSw; go_simp; try with_reducible rfl)
  simp only [Act.put, List.setIfInBounds_toArray]
  refine wpAnyC_take (fun w' : World => w'.cell? ⟨bf, 0, none⟩ = some (.int .i64 p) ∧ w'.cell? ⟨bf, 1, none⟩ = some (.int .i64 er)) [] (i := 1) (v := ?_) rfl (by kernel_rfl) (by kernel_rfl) (by kernel_rfl) (by kernel_rfl) (fun _ _ _ h => h) (fun _ _ _ _ _ h => h) (fun _ h => h) (Or.inl ⟨by rfl, ?_⟩) hS0 ?_; rotate_left; · (intro w hSw; (try dsimp only at hSw); obtain ⟨s0, s1⟩ := hSw; go_simp; try with_reducible rfl)
  simp only [Act.put]
  refine wpAnyC_take (fun w' : World => w'.cell? ⟨bf, 0, none⟩ = some (.int .i64 p) ∧ w'.cell? ⟨bf, 1, none⟩ = some (.int .i64 er)) [] (i := 2) (v := ?_) rfl (by kernel_rfl) (by kernel_rfl) (by kernel_rfl) (by kernel_rfl) (fun _ _ _ h => h) (fun _ _ _ _ _ h => h) (fun _ h => h) (Or.inl ⟨by rfl, ?_⟩) hS0 ?_; rotate_left; · (intro w hSw; (try dsimp only at hSw); obtain ⟨s0, s1⟩ := hSw; go_simp; try with_reducible rfl)
  simp only [Act.put]
  refine wpAnyC_take (fun w' : World => w'.cell? ⟨bf, 0, none⟩ = some (.int .i64 p) ∧ w'.cell? ⟨bf, 1, none⟩ = some (.int .i64 er)) [] (i := 3) (v := ?_) rfl (by kernel_rfl) (by kernel_rfl) (by kernel_rfl) (by kernel_rfl) (fun _ _ _ h => h) (fun _ _ _ _ _ h => h) (fun _ h => h) (Or.inl ⟨by rfl, ?_⟩) hS0 ?_; rotate_left; · (intro w hSw; (try dsimp only at hSw); obtain ⟨s0, s1⟩ := hSw; go_simp; try with_reducible rfl)
  simp only [Act.put]
  refine wpAnyC_take (fun w' : World => w'.cell? ⟨bf, 0, none⟩ = some (.int .i64 p) ∧ w'.cell? ⟨bf, 1, none⟩ = some (.int .i64 er)) [] (i := 4) (v := ?_) rfl (by kernel_rfl) (by kernel_rfl) (by kernel_rfl) (by kernel_rfl) (fun _ _ _ h => h) (fun _ _ _ _ _ h => h) (fun _ h => h) (Or.inl ⟨by rfl, ?_⟩) hS0 ?_; rotate_left; · (intro w hSw; (try dsimp only at hSw); obtain ⟨s0, s1⟩ := hSw; go_simp; try with_reducible rfl)
  simp only [Act.put]
  refine wpAnyC_take (fun w' : World => w'.cell? ⟨bf, 0, none⟩ = some (.int .i64 p) ∧ w'.cell? ⟨bf, 1, none⟩ = some (.int .i64 er)) [] (i := 5) (v := ?_) rfl (by kernel_rfl) (by kernel_rfl) (by kernel_rfl) (by kernel_rfl) (fun _ _ _ h => h) (fun _ _ _ _ _ h => h) (fun _ h => h) (Or.inl ⟨by rfl, ?_⟩) hS0 ?_; rotate_left; · (intro w hSw; (try dsimp only at hSw); obtain ⟨s0, s1⟩ := hSw; go_simp; try with_reducible rfl)
  simp only [Act.put]
  have nja : bj ≠ ba := blk_neJ hj1 ha1 (by decide)
  have nje : bj ≠ be := blk_neJ hj1 he1 (by decide)
  have nae : ba ≠ be := blk_neJ ha1 he1 (by decide)
  have c0 := hj1.cell 0
  have c1 := hj1.cell 1
  have c2 := hj1.cell 2
  have c3 := hj1.cell 3
  have c4 := hj1.cell 4
  have f0 := hj1.frozen 0
  have f1 := hj1.frozen 1
  have f2 := hj1.frozen 2
  have f3 := hj1.frozen 3
  have f4 := hj1.frozen 4
  simp at c0 c1 c2 c3 c4
  have e6 := fun b hb => far5 wb bj 0 b (.int .i64 0) (.int .i64 0) (.string ⟨#[]⟩) (.slice none 0 0) (.slice none 0 0) hb
  have hj2 := ((((hj1.set_ 0 (.int .i64 0)).set_ 1 (.int .i64 0)).set_ 2 (.string ⟨#[]⟩)).set_ 3 (.slice none 0 0)).set_ 4 (.slice none 0 0)
  clear hS0
  refine wpAnyC_one (i := 6) (by kernel_rfl) rfl (fun K hK => ?_)
  go_simp
  have hBf2 : Blk (five wb bj 0 (.int .i64 0) (.int .i64 0) (.string ⟨#[]⟩) (.slice none 0 0) (.slice none 0 0)) bf _ _ := (e6 bf nj).trans hBf1
  have ha2 : Blk (five wb bj 0 (.int .i64 0) (.int .i64 0) (.string ⟨#[]⟩) (.slice none 0 0) (.slice none 0 0)) ba _ _ := (e6 ba (Ne.symm nja)).trans ha1
  have he2 : Blk (five wb bj 0 (.int .i64 0) (.int .i64 0) (.string ⟨#[]⟩) (.slice none 0 0) (.slice none 0 0)) be _ _ := (e6 be (Ne.symm nje)).trans he1
  have hk2 : Hid (∀ B, B ≤ bj → B ≤ ba → B ≤ be → B ≤ w.heap.size → Below B w (five wb bj 0 (.int .i64 0) (.int .i64 0) (.string ⟨#[]⟩) (.slice none 0 0) (.slice none 0 0))) := fun B h1 h2 h3 h4 => (((((hk1.out B h1 h2 h3 h4).setCell (p := ⟨bj, 0, none⟩) h1 _).setCell (p := ⟨bj, 0 + 1, none⟩) h1 _).setCell (p := ⟨bj, 0 + 2, none⟩) h1 _).setCell (p := ⟨bj, 0 + 3, none⟩) h1 _).setCell (p := ⟨bj, 0 + 4, none⟩) h1 _
  clear e6 c0 c1 c2 c3 c4 f0 f1 f2 f3 f4 hj1 ha1 he1 hBf1 hk1 d0 d1
  change K _ (five wb bj 0 (.int .i64 0) (.int .i64 0) (.string ⟨#[]⟩) (.slice none 0 0) (.slice none 0 0))
  have hj3 : Blk (five wb bj 0 (.int .i64 0) (.int .i64 0) (.string ⟨#[]⟩) (.slice none 0 0) (.slice none 0 0)) bj 70 (jz 0 0 []) := hj2
  clear hj2
  generalize five wb bj 0 (.int .i64 0) (.int .i64 0) (.string ⟨#[]⟩) (.slice none 0 0) (.slice none 0 0) = wd at *
  have d0 := hBf2.cell 0
  have d1 := hBf2.cell 1
  simp at d0 d1
  refine hK.out _ _ ⟨d0, d1⟩ ?_
  clear hK K
  have fa := ha2.frozen 0
  have ca := ha2.cell 0
  have fe := he2.frozen 0
  have ce := he2.cell 0
  simp at ca ce
  refine wpAnyC_one (i := 7) (by kernel_rfl) rfl (fun K hK => ?_)
  go_simp
  refine hK.out _ _ ⟨?_, ?_⟩ ?_
  · rw [World.cell?_of_block (a := ⟨bf, 0, none⟩) (Below.heap_setCell _ _ _ bf na)]; exact d0
  · rw [World.cell?_of_block (a := ⟨bf, 1, none⟩) (Below.heap_setCell _ _ _ bf na)]; exact d1
  clear hK K
  have he4 := he2.far (p := ⟨ba, 0, none⟩) (Ne.symm nae) (.int .i64 p)
  have fe := he4.frozen 0
  refine wpAnyC_one (i := 8) (by kernel_rfl) rfl (fun K hK => ?_)
  go_simp
  refine hK.out _ _ ⟨?_, ?_⟩ ?_
  · rw [World.cell?_of_block (a := ⟨bf, 0, none⟩) (Below.heap_setCell _ _ _ bf ne), World.cell?_of_block (a := ⟨bf, 0, none⟩) (Below.heap_setCell _ _ _ bf na)]; exact d0
  · rw [World.cell?_of_block (a := ⟨bf, 1, none⟩) (Below.heap_setCell _ _ _ bf ne), World.cell?_of_block (a := ⟨bf, 1, none⟩) (Below.heap_setCell _ _ _ bf na)]; exact d1
  clear hK K
  refine wpAnyC_done (by kernel_rfl) ?_ _
  refine RestP.normal rfl ⟨⟨?_, ?_, ?_⟩, fun B h1 h2 h3 h4 => ?_⟩
  · exact (hj3.far (p := ⟨ba, 0, none⟩) nja _).far (p := ⟨be, 0, none⟩) nje _
  · exact (ha2.set_ 0 (.int .i64 p)).far (p := ⟨be, 0, none⟩) nae _
  · exact he4.set_ 0 _
  · exact ((hk2.out B h1 h2 h3 h4).setCell (p := ⟨ba, 0, none⟩) h2 _).setCell (p := ⟨be, 0, none⟩) h3 _

/-- how the parsing of a text ends -/
def ParseE (w : World) (r : Jp.Rs JT) (e : Ending) (w' : World) : Prop :=
  Below w.heap.size w w' ∧ match r with
    | .ok j _ => ∃ Ak ck Ad cd, e = .returned (.tuple #[jVal j Ak ck Ad cd, .int .i64 0, .nilIface]) ∧ JInF w' (fun b => w.heap.size ≤ b) 41 j Ak ck Ad
    | .bad p er => e = .returned (.tuple #[.agg (jz 0 0 []), .int .i64 p, .iface 64 (.int .i64 er)])
theorem parse_out {W : World} {bj ba be : Nat} {u0 u1 u2 u3 u4 : Value} {p : Int} {v : Value} {tmps : Array Value} (h2 : tmps.getD 2 undef = .pointer (some ⟨bj, 0, none⟩)) (h3 : tmps.getD 3 undef = .pointer (some ⟨ba, 0, none⟩)) (h4 : tmps.getD 4 undef = .pointer (some ⟨be, 0, none⟩)) (h : PBox W bj ba be #[u0, u1, u2, u3, u4] p v) :
    (results Tryz.f30 tmps).run Tryz.prog W = .ok (.tuple #[.agg #[u0, u1, u2, u3, u4], .int .i64 p, v]) W := by
  simp only [Array.getD_eq_getD_getElem?] at h2 h3 h4
  have c0 := h.j.cell 0
  have c1 := h.j.cell 1
  have c2 := h.j.cell 2
  have c3 := h.j.cell 3
  have c4 := h.j.cell 4
  have ca := h.a.cell 0
  have ce := h.e.cell 0
  simp at ca ce c0 c1 c2 c3 c4
  simp [results, Tryz.results30, h2, h3, h4, c0, c1, c2, c3, c4, ca, ce, go_sem]
/-- the deferred closure -/
abbrev pDef (bj ba be : Nat) : Deferred := { target := .fn (.func 55) #[.pointer (some ⟨bj, 0, none⟩), .pointer (some ⟨ba, 0, none⟩), .pointer (some ⟨be, 0, none⟩)], args := #[] }
theorem parse_bad {w W : World} {bj ba be p er : Nat} {a0 a1 a2 a3 a4 : Value} {p0 : Int} {v0 : Value} {tmps : Array Value} {r : Jp.Rs JT} (hr : r = .bad p er) (h2 : tmps.getD 2 undef = .pointer (some ⟨bj, 0, none⟩)) (h3 : tmps.getD 3 undef = .pointer (some ⟨ba, 0, none⟩)) (h4 : tmps.getD 4 undef = .pointer (some ⟨be, 0, none⟩))
    (h : PBox W bj ba be #[a0, a1, a2, a3, a4] p0 v0) (hb : Below w.heap.size w W) (hn : w.heap.size ≤ bj ∧ w.heap.size ≤ ba ∧ w.heap.size ≤ be) :
    Leaves Tryz.prog Tryz.f30 tmps (ParseE w r) [pDef bj ba be] (.panicking (faultC p er)) W := by
  refine leaves_cons (f := 55) (args := #[.pointer (some ⟨bj, 0, none⟩), .pointer (some ⟨ba, 0, none⟩), .pointer (some ⟨be, 0, none⟩)]) (by simp) (by simp [go_sem]) ?_
  refine (parse_restore h p er).mono ?_
  rintro e u' w'' ⟨rfl, rfl, hB, hk⟩
  refine (show Leaves _ _ _ _ [] .returning w'' from ⟨_, parse_out h2 h3 h4 hB, ?_⟩)
  subst hr
  exact ⟨hb.trans (hk _ hn.1 hn.2.1 hn.2.2 hb.size), rfl⟩
theorem parse_badD {w W : World} {bj ba be p er : Nat} {a0 a1 a2 a3 a4 : Value} {p0 : Int} {v0 : Value} {a : Act} {r : Jp.Rs JT} (hr : r = .bad p er) (hd : a.defers = [pDef bj ba be]) (h2 : a.tmps.getD 2 undef = .pointer (some ⟨bj, 0, none⟩)) (h3 : a.tmps.getD 3 undef = .pointer (some ⟨ba, 0, none⟩)) (h4 : a.tmps.getD 4 undef = .pointer (some ⟨be, 0, none⟩))
    (h : PBox W bj ba be #[a0, a1, a2, a3, a4] p0 v0) (hb : Below w.heap.size w W) (hn : w.heap.size ≤ bj ∧ w.heap.size ≤ ba ∧ w.heap.size ≤ be) :
    bodyPostD Tryz.prog Tryz.f30 (ParseE w r) (.panic (faultC p er)) a W := by
  obtain ⟨tm, df⟩ := a
  dsimp only at hd h2 h3 h4
  subst hd
  exact parse_bad (tmps := tm) hr h2 h3 h4 h hb hn
theorem parse_ok {w W : World} {bj ba be k : Nat} {j : JT} {Ak Ad : Option Addr} {ck cd : Nat} {tmps : Array Value} {r : Jp.Rs JT} (hr : r = .ok j k) (h2 : tmps.getD 2 undef = .pointer (some ⟨bj, 0, none⟩)) (h3 : tmps.getD 3 undef = .pointer (some ⟨ba, 0, none⟩)) (h4 : tmps.getD 4 undef = .pointer (some ⟨be, 0, none⟩))
    (h : PBox W bj ba be #[.int .i64 j.kind, .int .i64 j.num, strV j.text, .slice Ak j.keys.length ck, .slice Ad j.kids.length cd] 0 .nilIface) (hb : Below w.heap.size w W) (hj : JInF W (fun b => w.heap.size ≤ b) 41 j Ak ck Ad) :
    Leaves Tryz.prog Tryz.f30 tmps (ParseE w r) [pDef bj ba be] .returning W := by
  refine leaves_cons (f := 55) (args := #[.pointer (some ⟨bj, 0, none⟩), .pointer (some ⟨ba, 0, none⟩), .pointer (some ⟨be, 0, none⟩)]) (by simp) (by simp [go_sem]) ?_
  refine (parse_idle W).mono ?_
  rintro e u' w'' ⟨rfl, rfl, rfl⟩
  refine (show Leaves _ _ _ _ [] .returning w'' from ⟨_, parse_out h2 h3 h4 h, ?_⟩)
  subst hr
  exact ⟨hb, Ak, ck, Ad, cd, rfl, hj⟩

theorem PBox.below {w w' : World} {bj ba be : Nat} {cj : Array Value} {p : Int} {v : Value} (h : PBox w bj ba be cj p v) (hk : ∀ b, b = bj ∨ b = ba ∨ b = be → w'.heap[b]? = w.heap[b]?) : PBox w' bj ba be cj p v :=
  ⟨(hk bj (.inl rfl)).trans h.j, (hk ba (.inr (.inl rfl))).trans h.a, (hk be (.inr (.inr rfl))).trans h.e⟩
set_option maxHeartbeats 4000000 in
set_option maxRecDepth 100000 in
theorem parse_walk (s : Bs) (hl : s.length ≤ 16777216) (w : World) : Calls Tryz.prog 30 #[.string ⟨s.toArray⟩] w (ParseE w (Jp.parseP s)) := by
  generalize hR : Jp.parseP s = R
  have HR : Hid ((match Jp.valF s 41 0 0 with
    | .bad p e => .bad p e
    | .ok j k => if Jp.skipP s k < s.length then .bad (Jp.skipP s k) 3 else .ok j 0) = R) := hR
  clear hR
  have hb1 : Below w.heap.size w ((((w.alloc (.cells #[.int .i64 0, .int .i64 0, .string ⟨#[]⟩, .slice none 0 0, .slice none 0 0] 70)).alloc (.cells #[.int .i64 0] 3)).alloc (.cells #[.nilIface] 28)).alloc (.cells #[.string ⟨s.toArray⟩, .int .i64 0] 137)) := ((((Below.refl _ _).alloc (Nat.le_refl _) _).alloc (by simp) _).alloc (by simp; omega) _).alloc (by simp; omega) _
  have hB1 : PBox ((((w.alloc (.cells #[.int .i64 0, .int .i64 0, .string ⟨#[]⟩, .slice none 0 0, .slice none 0 0] 70)).alloc (.cells #[.int .i64 0] 3)).alloc (.cells #[.nilIface] 28)).alloc (.cells #[.string ⟨s.toArray⟩, .int .i64 0] 137)) w.heap.size (w.heap.size + 1) (w.heap.size + 1 + 1) #[.int .i64 0, .int .i64 0, .string ⟨#[]⟩, .slice none 0 0, .slice none 0 0] 0 .nilIface :=
    ⟨(((Blk.new _ _ _).alloc _).alloc _).alloc _, by have h := ((Blk.new (w.alloc (.cells #[.int .i64 0, .int .i64 0, .string ⟨#[]⟩, .slice none 0 0, .slice none 0 0] 70)) 3 #[.int .i64 0]).alloc (.cells #[.nilIface] 28)).alloc (.cells #[.string ⟨s.toArray⟩, .int .i64 0] 137); simpa using h,
      by have h := (Blk.new ((w.alloc (.cells #[.int .i64 0, .int .i64 0, .string ⟨#[]⟩, .slice none 0 0, .slice none 0 0] 70)).alloc (.cells #[.int .i64 0] 3)) 28 #[.nilIface]).alloc (.cells #[.string ⟨s.toArray⟩, .int .i64 0] 137); simpa using h⟩
  have hr1 : RdrAt ((((w.alloc (.cells #[.int .i64 0, .int .i64 0, .string ⟨#[]⟩, .slice none 0 0, .slice none 0 0] 70)).alloc (.cells #[.int .i64 0] 3)).alloc (.cells #[.nilIface] 28)).alloc (.cells #[.string ⟨s.toArray⟩, .int .i64 0] 137)) (w.heap.size + 1 + 1 + 1) s 0 := by
    have h := Blk.new (((w.alloc (.cells #[.int .i64 0, .int .i64 0, .string ⟨#[]⟩, .slice none 0 0, .slice none 0 0] 70)).alloc (.cells #[.int .i64 0] 3)).alloc (.cells #[.nilIface] 28)) 137 #[.string ⟨s.toArray⟩, .int .i64 0]
    have e : (((w.alloc (.cells #[.int .i64 0, .int .i64 0, .string ⟨#[]⟩, .slice none 0 0, .slice none 0 0] 70)).alloc (.cells #[.int .i64 0] 3)).alloc (.cells #[.nilIface] 28)).heap.size = w.heap.size + 1 + 1 + 1 := by simp
    rw [e] at h
    exact h
  have hz1 : ((((w.alloc (.cells #[.int .i64 0, .int .i64 0, .string ⟨#[]⟩, .slice none 0 0, .slice none 0 0] 70)).alloc (.cells #[.int .i64 0] 3)).alloc (.cells #[.nilIface] 28)).alloc (.cells #[.string ⟨s.toArray⟩, .int .i64 0] 137)).heap.size = w.heap.size + 1 + 1 + 1 + 1 := by simp
  go_enter_defers Tryz.func30, Tryz.ntmps30
  go_upto_region 3 with fail
  have hn : Hid (w.heap.size ≤ w.heap.size ∧ w.heap.size ≤ w.heap.size + 1 ∧ w.heap.size ≤ w.heap.size + 1 + 1) := ⟨by omega, by omega, by omega⟩
  obtain ⟨bj, hbj⟩ : ∃ b, b = w.heap.size := ⟨_, rfl⟩
  obtain ⟨ba, hba⟩ : ∃ b, b = w.heap.size + 1 := ⟨_, rfl⟩
  obtain ⟨be, hbe⟩ : ∃ b, b = w.heap.size + 1 + 1 := ⟨_, rfl⟩
  obtain ⟨g, hg⟩ : ∃ b, b = w.heap.size + 1 + 1 + 1 := ⟨_, rfl⟩
  have hne : Hid ((bj ≠ g ∧ ba ≠ g ∧ be ≠ g) ∧ (bj ≠ ba ∧ bj ≠ be ∧ ba ≠ be) ∧ (bj < g ∧ ba < g ∧ be < g)) := ⟨⟨by omega, by omega, by omega⟩, ⟨by omega, by omega, by omega⟩, by omega, by omega, by omega⟩
  have hn2 : Hid (w.heap.size ≤ bj ∧ w.heap.size ≤ ba ∧ w.heap.size ≤ be) := ⟨by omega, by omega, by omega⟩
  have hwg : Hid (w.heap.size ≤ g) := by show _ ≤ _; omega
  rw [← hg] at hz1
  rw [← hbe, ← hba, ← hbj] at hB1
  rw [← hg] at hr1
  rw [← hg, ← hbe, ← hba, ← hbj]
  clear hn hbj hba hbe hg
  generalize ((((w.alloc (.cells #[.int .i64 0, .int .i64 0, .string ⟨#[]⟩, .slice none 0 0, .slice none 0 0] 70)).alloc (.cells #[.int .i64 0] 3)).alloc (.cells #[.nilIface] 28)).alloc (.cells #[.string ⟨s.toArray⟩, .int .i64 0] 137)) = w1 at *
  have hv : Calls Tryz.prog 56 #[.pointer (some ⟨g, 0, none⟩), .int .i64 0] w1 (ValE g s w1 41 (Jp.valF s 41 0 0)) := value_walk g s hl 40 0 rfl 0 w1 hr1 (Nat.zero_le _)
  have hva := Jp.val_ahead s 41 0 0 (Nat.zero_le _)
  generalize Jp.valF s 41 0 0 = V at *
  cases V with
  | bad p er =>
    have HB : Hid (R = .bad p er) := HR.out.symm
    go_wp2_with fail
    refine hv.mono ?_
    intro e w2 h2
    obtain ⟨ha2, rfl⟩ := h2.is_bad
    have hB2 := hB1.below fun b hb => ha2.oth b (by have := hB1.j.lt; have := hB1.a.lt; have := hB1.e.lt; omega) (by have := hne.out.1; omega)
    exact parse_badD HB.out rfl rfl rfl rfl hB2 (hb1.trans (ha2.bel.mono hwg.out)) hn2.out
  | ok j k =>
    obtain ⟨_, hk2⟩ := hva
    have HR2 : Hid ((if Jp.skipP s k < s.length then .bad (Jp.skipP s k) 3 else .ok j 0) = R) := HR.out
    go_wp2_with fail
    refine hv.mono ?_
    clear hv HR
    intro e w2 h2
    obtain ⟨ha2, hr2, Ak, ck, Ad, cd, rfl, hj⟩ := h2.is_ok
    clear h2
    have hB2 := hB1.below fun b hb => ha2.oth b (by have := hB1.j.lt; have := hB1.a.lt; have := hB1.e.lt; omega) (by have := hne.out.1; omega)
    have hb2 := hb1.trans (ha2.bel.mono hwg.out)
    clear hB1 hb1 hr1 ha2
    have c0 := hB2.j.cell 0
    have c1 := hB2.j.cell 1
    have c2 := hB2.j.cell 2
    have c3 := hB2.j.cell 3
    have c4 := hB2.j.cell 4
    have f0 := hB2.j.frozen 0
    have f1 := hB2.j.frozen 1
    have f2 := hB2.j.frozen 2
    have f3 := hB2.j.frozen 3
    have f4 := hB2.j.frozen 4
    simp at c0 c1 c2 c3 c4
    have e6 := fun b hb => far5 w2 bj 0 b (.int .i64 j.kind) (.int .i64 j.num) (.string ⟨j.text.toArray⟩) (.slice Ak j.keys.length ck) (.slice Ad j.kids.length cd) hb
    have hj2 := ((((hB2.j.set_ 0 (.int .i64 j.kind)).set_ 1 (.int .i64 j.num)).set_ 2 (.string ⟨j.text.toArray⟩)).set_ 3 (.slice Ak j.keys.length ck)).set_ 4 (.slice Ad j.kids.length cd)
    have hz3 := five_size w2 bj 0 (.int .i64 j.kind) (.int .i64 j.num) (.string ⟨j.text.toArray⟩) (.slice Ak j.keys.length ck) (.slice Ad j.kids.length cd)
    have hB3 : PBox (five w2 bj 0 (.int .i64 j.kind) (.int .i64 j.num) (.string ⟨j.text.toArray⟩) (.slice Ak j.keys.length ck) (.slice Ad j.kids.length cd)) bj ba be #[.int .i64 j.kind, .int .i64 j.num, .string ⟨j.text.toArray⟩, .slice Ak j.keys.length ck, .slice Ad j.kids.length cd] 0 .nilIface :=
      ⟨hj2, (e6 ba (Ne.symm hne.out.2.1.1)).trans hB2.a, (e6 be (Ne.symm hne.out.2.1.2.1)).trans hB2.e⟩
    have hr3 : RdrAt (five w2 bj 0 (.int .i64 j.kind) (.int .i64 j.num) (.string ⟨j.text.toArray⟩) (.slice Ak j.keys.length ck) (.slice Ad j.kids.length cd)) g s k := (e6 g (Ne.symm hne.out.1.1)).trans hr2
    have hb3 : Below w.heap.size w (five w2 bj 0 (.int .i64 j.kind) (.int .i64 j.num) (.string ⟨j.text.toArray⟩) (.slice Ak j.keys.length ck) (.slice Ad j.kids.length cd)) := ((((hb2.setCell (p := ⟨bj, 0, none⟩) hn2.out.1 _).setCell (p := ⟨bj, 0 + 1, none⟩) hn2.out.1 _).setCell (p := ⟨bj, 0 + 2, none⟩) hn2.out.1 _).setCell (p := ⟨bj, 0 + 3, none⟩) hn2.out.1 _).setCell (p := ⟨bj, 0 + 4, none⟩) hn2.out.1 _
    have hjF : JInF (five w2 bj 0 (.int .i64 j.kind) (.int .i64 j.num) (.string ⟨j.text.toArray⟩) (.slice Ak j.keys.length ck) (.slice Ad j.kids.length cd)) (fun b => g < b) 41 j Ak ck Ad := hj.keep (F' := fun b => g < b) ⟨by rw [hz3]; exact Nat.le_refl _, fun b hb _ => e6 b (by have := hne.out.2.2.1; omega)⟩ (fun b hb _ => by omega)
    unfold jVal strV
    go_upto_region 4 with fail
    change Code.wp _ _ _ _ (five w2 bj 0 (.int .i64 j.kind) (.int .i64 j.num) (.string ⟨j.text.toArray⟩) (.slice Ak j.keys.length ck) (.slice Ad j.kids.length cd))
    clear hB2 hb2 hr2 hj hj2 hz3 e6 c0 c1 c2 c3 c4 f0 f1 f2 f3 f4
    generalize five w2 bj 0 (.int .i64 j.kind) (.int .i64 j.num) (.string ⟨j.text.toArray⟩) (.slice Ak j.keys.length ck) (.slice Ad j.kids.length cd) = w3 at *
    have hsk := jskip_walk g s k w3 hr3 hk2 hl
    have hle := Jp.skip_le s k hk2
    generalize Jp.skipP s k = q at *
    go_wp2_with fail
    refine hsk.mono ?_
    clear hsk
    rintro e w4 ⟨rfl, hr4, ha4⟩
    have hB4 := hB3.below fun b hb => ha4.oth b (by have := hB3.j.lt; have := hB3.a.lt; have := hB3.e.lt; omega) (by have := hne.out.1; omega)
    have hb4 := hb3.trans (ha4.bel.mono hwg.out)
    have hj4 := hjF.keep (F' := fun b => g < b) ⟨ha4.bel.size, fun b hb hl => ha4.oth b hl (by omega)⟩ (fun b hb _ => hb)
    clear hB3 hb3 hr3 ha4 hjF
    have c1 := hr4.c1
    by_cases hq : q < s.length
    · have HB : Hid (R = .bad q 3) := by show _ = _; rw [← HR2.out, if_pos hq]
      have hq1 : (q : Int) < (s.length : Int) := by omega
      clear HR2 hq
      go_wp2_with fail
      refine (fail_walk q 3 _).mono ?_
      rintro e w5 ⟨rfl, rfl⟩
      exact parse_badD HB.out rfl rfl rfl rfl hB4 hb4 hn2.out
    · have HB : Hid (R = .ok j 0) := by show _ = _; rw [← HR2.out, if_neg hq]
      have hq1 : ¬ (q : Int) < (s.length : Int) := by omega
      clear HR2 hq
      have c0 := hB4.j.cell 0
      have d1 := hB4.j.cell 1
      have c2 := hB4.j.cell 2
      have c3 := hB4.j.cell 3
      have c4 := hB4.j.cell 4
      have ca := hB4.a.cell 0
      have ce := hB4.e.cell 0
      have f0 := hB4.j.frozen 0
      have f1 := hB4.j.frozen 1
      have f2 := hB4.j.frozen 2
      have f3 := hB4.j.frozen 3
      have f4 := hB4.j.frozen 4
      have fa := hB4.a.frozen 0
      have fe := hB4.e.frozen 0
      simp at c0 d1 c2 c3 c4 ca ce
      have hne1 := hne.out.2.1.1
      have hne2 := hne.out.2.1.2.1
      have hne3 := hne.out.2.1.2.2
      have e6 := fun b hb => far5 w4 bj 0 b (.int .i64 j.kind) (.int .i64 j.num) (.string ⟨j.text.toArray⟩) (.slice Ak j.keys.length ck) (.slice Ad j.kids.length cd) hb
      have hj2 := ((((hB4.j.set_ 0 (.int .i64 j.kind)).set_ 1 (.int .i64 j.num)).set_ 2 (.string ⟨j.text.toArray⟩)).set_ 3 (.slice Ak j.keys.length ck)).set_ 4 (.slice Ad j.kids.length cd)
      have hz3 := five_size w4 bj 0 (.int .i64 j.kind) (.int .i64 j.num) (.string ⟨j.text.toArray⟩) (.slice Ak j.keys.length ck) (.slice Ad j.kids.length cd)
      have hj3 : Blk (five w4 bj 0 (.int .i64 j.kind) (.int .i64 j.num) (.string ⟨j.text.toArray⟩) (.slice Ak j.keys.length ck) (.slice Ad j.kids.length cd)) bj 70 #[.int .i64 j.kind, .int .i64 j.num, .string ⟨j.text.toArray⟩, .slice Ak j.keys.length ck, .slice Ad j.kids.length cd] := hj2
      have ha3 : Blk (five w4 bj 0 (.int .i64 j.kind) (.int .i64 j.num) (.string ⟨j.text.toArray⟩) (.slice Ak j.keys.length ck) (.slice Ad j.kids.length cd)) ba 3 #[.int .i64 0] := (e6 ba (Ne.symm hne1)).trans hB4.a
      have he3 : Blk (five w4 bj 0 (.int .i64 j.kind) (.int .i64 j.num) (.string ⟨j.text.toArray⟩) (.slice Ak j.keys.length ck) (.slice Ad j.kids.length cd)) be 28 #[.nilIface] := (e6 be (Ne.symm hne2)).trans hB4.e
      have hB5 : PBox (((five w4 bj 0 (.int .i64 j.kind) (.int .i64 j.num) (.string ⟨j.text.toArray⟩) (.slice Ak j.keys.length ck) (.slice Ad j.kids.length cd)).setCell ⟨ba, 0, none⟩ (.int .i64 0)).setCell ⟨be, 0, none⟩ .nilIface) bj ba be #[.int .i64 j.kind, .int .i64 j.num, .string ⟨j.text.toArray⟩, .slice Ak j.keys.length ck, .slice Ad j.kids.length cd] 0 .nilIface :=
        ⟨(hj3.far (p := ⟨ba, 0, none⟩) hne1 _).far (p := ⟨be, 0, none⟩) hne2 _, (ha3.set_ 0 (.int .i64 0)).far (p := ⟨be, 0, none⟩) hne3 _, (he3.far (p := ⟨ba, 0, none⟩) (Ne.symm hne3) _).set_ 0 .nilIface⟩
      have hb5 : Below w.heap.size w (((five w4 bj 0 (.int .i64 j.kind) (.int .i64 j.num) (.string ⟨j.text.toArray⟩) (.slice Ak j.keys.length ck) (.slice Ad j.kids.length cd)).setCell ⟨ba, 0, none⟩ (.int .i64 0)).setCell ⟨be, 0, none⟩ .nilIface) := ((((((hb4.setCell (p := ⟨bj, 0, none⟩) hn2.out.1 _).setCell (p := ⟨bj, 0 + 1, none⟩) hn2.out.1 _).setCell (p := ⟨bj, 0 + 2, none⟩) hn2.out.1 _).setCell (p := ⟨bj, 0 + 3, none⟩) hn2.out.1 _).setCell (p := ⟨bj, 0 + 4, none⟩) hn2.out.1 _).setCell (p := ⟨ba, 0, none⟩) hn2.out.2.1 _).setCell (p := ⟨be, 0, none⟩) hn2.out.2.2 _
      have hj5 : JInF (((five w4 bj 0 (.int .i64 j.kind) (.int .i64 j.num) (.string ⟨j.text.toArray⟩) (.slice Ak j.keys.length ck) (.slice Ad j.kids.length cd)).setCell ⟨ba, 0, none⟩ (.int .i64 0)).setCell ⟨be, 0, none⟩ .nilIface) (fun b => w.heap.size ≤ b) 41 j Ak ck Ad := hj4.keep (F' := fun b => w.heap.size ≤ b) ⟨by simp [World.setCell], fun b hb _ => ((Below.heap_setCell _ ⟨be, 0, none⟩ _ b (by have := hne.out.2.2.2.2; show b ≠ be; omega)).trans (Below.heap_setCell _ ⟨ba, 0, none⟩ _ b (by have := hne.out.2.2.2.1; show b ≠ ba; omega))).trans (e6 b (by have := hne.out.2.2.1; omega))⟩ (fun b hb _ => by have := hwg.out; omega)
      clear hj2 hz3 hj3 ha3 he3 e6 hB4 hb4 hj4 hr4
      have HB5 := Lib.hid hB5
      have Hb5 := Lib.hid hb5
      have Hj5 := Lib.hid hj5
      clear hB5 hb5 hj5
      go_wp2_with fail
      exact parse_ok HB.out rfl rfl rfl HB5.out Hb5.out Hj5.out
end Go.Proofs.YtgpjcjnimheglaaGreatDoor
/-
  WALKS: amanuensissame.SameJson, at a value that the program has read and the same one that the document has read.
-/
namespace Go.Proofs.YtgpjcjnimheglaaGreatDoor
open Go.RowKit

set_option maxHeartbeats 1000000 in
set_option maxRecDepth 100000 in
theorem texts_walk8 (A A' : Option Addr) (c c' : Nat) (l m : List Bs) (w : World) (h1 : Rd w w.heap.size 1 A l.length (txtV l)) (h2 : Rd w w.heap.size 1 A' m.length (txtV m)) (hl : l.length ≤ 8388608) (hm : m.length ≤ 8388608) :
    Calls Tryz.prog 62 #[.slice A l.length c, .slice A' m.length c'] w fun e w' => e = .returned (.bool (decide (l = m))) ∧ Below w.heap.size w w' := by
  by_cases hlen : l.length = m.length
  · have Hlen := Lib.hid hlen
    have H2 := Lib.hid h2
    clear hlen h2
    have Hm2 : Hid (m.length = l.length) := Hlen.out.symm
    generalize hml : m.length = ml at *
    obtain rfl : ml = l.length := Hm2.out
    have Hml := Lib.hid hml
    clear hml Hm2 Hlen
    generalize hR : decide (l = m) = R
    have HR := Lib.hid hR
    clear hR
    go_enter Tryz.func62, Tryz.ntmps62
    go_wp2
    go_loopw [5] (fun i wr => ∃ k : Nat, k ≤ l.length ∧ i = .int .i64 k ∧ Below w.heap.size w wr ∧ Hid (l.take k = m.take k)) (fun i _ => l.length - (intOf i).toNat)
    case atStart => exact ⟨0, Nat.zero_le _, rfl, Below.refl _ _, rfl⟩
    case round =>
      obtain ⟨k, hk, rfl, hb, Hsm⟩ := hrel
      have hbs := hb.size
      by_cases hlt : k < l.length
      · have hlt2 : k < m.length := by have := Hml.out; omega
        obtain ⟨b, o, rfl, hbB, c0⟩ := Rd.txt (h1.below hb) hlt
        obtain ⟨b', o', rfl, hbB', c0'⟩ := Rd.txt (Rd.below (show Rd w w.heap.size 1 A' m.length (txtV m) by rw [Hml.out]; exact H2.out) hb) hlt2
        have i1 : (0 : Int) ≤ (k : Int) := by omega
        have i2 : (k : Int) < (l.length : Int) := by omega
        have Hst : Hid (l[k] = m[k] → l.take (k + 1) = m.take (k + 1)) := fun h => by
          rw [List.take_succ_eq_append_getElem hlt, List.take_succ_eq_append_getElem hlt2, Hsm.out, h]
        have Hne : Hid (l[k] ≠ m[k] → R = false) := fun h => by rw [← HR.out]; exact take_neT hlt hlt2 h
        unfold strV at c0 c0'
        generalize l[k] = x at *
        generalize m[k] = y at *
        clear hlt2
        by_cases hxy : x = y
        · subst hxy
          go_wp2
          go_quiet (fail)
          go_wp2
          go_roundw
          case rel => exact ⟨k + 1, by omega, by go_num, below_drewN hb _, Hst.out (by simp)⟩
          case measure => simp [intOf]; omega
        · have d1 : (x == y) = false := by simp [hxy]
          go_wp2
          go_quiet (fail)
          go_wp2
          go_ret
          exact ⟨by rw [Hne.out hxy]; rfl, below_drewN hb _⟩
      · obtain rfl : k = l.length := by omega
        go_wp2
        go_ret
        refine ⟨?_, hb⟩
        have : l = m := by
          have := Hsm.out
          rwa [List.take_length, ← Hml.out, List.take_length] at this
        rw [← HR.out, decide_eq_true this]; rfl
  · have hR : decide (l = m) = false := decide_eq_false fun e => hlen (by rw [e])
    rw [hR]
    have d1 : ¬ (l.length : Int) = (m.length : Int) := by omega
    go_enter Tryz.func62, Tryz.ntmps62
    go_wp2
    go_ret
    exact ⟨rfl, Below.refl _ _⟩


theorem wts_mem {l : List JT} {j : JT} (h : j ∈ l) : j.wt + 2 ≤ JT.wts l := by
  induction l with
  | nil => cases h
  | cons a l ih =>
    simp only [JT.wts]
    rcases List.mem_cons.1 h with rfl | h
    · omega
    · have := ih h; omega
theorem wts_len (l : List JT) : 2 * l.length ≤ JT.wts l := by
  induction l with
  | nil => simp [JT.wts]
  | cons a l ih => simp only [JT.wts, List.length_cons]; omega
theorem keyW_len (l : List Bs) : 8 * l.length ≤ JT.keyW l := by
  unfold JT.keyW
  induction l with
  | nil => simp
  | cons a l ih => simp only [List.map_cons, List.sum_cons, List.length_cons]; omega
theorem JInF.all {w : World} {F : Nat → Prop} {d : Nat} {j : JT} {Ak Ad : Option Addr} {ck : Nat} (h : JInF w F d j Ak ck Ad) : JInF w (fun _ => True) d j Ak ck Ad := h.keep (KeepF.refl _ _) fun _ _ _ => trivial
theorem RjF.all {w : World} {F : Nat → Prop} {d : Nat} {j : JT} {b : Nat} (h : RjF w F d j b) : RjF w (fun _ => True) d j b := h.keep (KeepF.refl _ _) fun _ _ _ => trivial

set_option maxHeartbeats 8000000 in
set_option maxRecDepth 100000 in
theorem samejson_step (d : Nat) (j : JT) (ih : 0 < j.kids.length → ∀ (j : JT) (Ak Ad : Option Addr) (ck cd b : Nat) (w : World), j.wt ≤ 50331648 → JInF w (fun _ => True) d j Ak ck Ad → RjF w (fun _ => True) (d + 1) j b →
      Calls Tryz.prog 32 #[jVal j Ak ck Ad cd, .pointer (some ⟨b, 0, none⟩)] w fun e w' => e = .returned (.bool true) ∧ Below w.heap.size w w')
    (Ak Ad : Option Addr) (ck cd b : Nat) (w : World) (hw : j.wt ≤ 50331648) (hj : JInF w (fun _ => True) (d + 1) j Ak ck Ad) (hr : RjF w (fun _ => True) (d + 2) j b) :
    Calls Tryz.prog 32 #[jVal j Ak ck Ad cd, .pointer (some ⟨b, 0, none⟩)] w fun e w' => e = .returned (.bool true) ∧ Below w.heap.size w w' := by
  have hwk := JT.wt_eq j
  have hkl := keyW_len j.keys
  have hdl := wts_len j.kids
  have hk8 : j.keys.length ≤ 8388608 := by omega
  have hd8 : j.kids.length ≤ 25165824 := by omega
  obtain ⟨_, Ak2, ck2, Ad2, cd2, hB, hk2, hd2⟩ := hr
  obtain ⟨hk1, _, hd1, _⟩ := hj
  have hbl : Below w.heap.size w (w.alloc (.cells #[.int .i64 j.kind, .int .i64 j.num, .string ⟨j.text.toArray⟩, .slice Ak j.keys.length ck, .slice Ad j.kids.length cd] 70)) := (Below.refl _ _).alloc (Nat.le_refl _) _
  obtain ⟨bx, hbx⟩ : ∃ b, b = w.heap.size := ⟨_, rfl⟩
  have hBx : Blk (w.alloc (.cells #[.int .i64 j.kind, .int .i64 j.num, .string ⟨j.text.toArray⟩, .slice Ak j.keys.length ck, .slice Ad j.kids.length cd] 70)) bx 70 #[.int .i64 j.kind, .int .i64 j.num, .string ⟨j.text.toArray⟩, .slice Ak j.keys.length ck, .slice Ad j.kids.length cd] := by rw [hbx]; exact Blk.new _ _ _
  have Hkids := Lib.hid (And.intro hd1 hd2)
  have Hw := Lib.hid (⟨hw, hwk⟩ : j.wt ≤ 50331648 ∧ j.wt = _)
  have Hk1 := Lib.hid hk1
  have Hk2 := Lib.hid hk2
  have hb1 := hB.below hbl hB.lt
  clear hd1 hd2 hw hwk hkl hdl hk1 hk2
  unfold jVal strV
  go_enter Tryz.func32, Tryz.ntmps32
  go_upto_region 1 with fail
  rw [← hbx]
  clear hbx
  generalize w.alloc (.cells #[.int .i64 j.kind, .int .i64 j.num, .string ⟨j.text.toArray⟩, .slice Ak j.keys.length ck, .slice Ad j.kids.length cd] 70) = w1 at *
  refine wp_region_C (fun _ w' => w'.cell? ⟨bx, 3, none⟩ = some (.slice Ak j.keys.length ck) ∧ w'.cell? ⟨b, 3, none⟩ = some (.slice Ak2 j.keys.length ck2)) (by kernel_rfl) ?_
  have hBx1 := hBx.drew
  have hb2 := hb1.drew
  have hbl1 := hbl.drew
  clear hBx hb1 hbl
  generalize World.drew w1 = w2 at *
  have c3 := hBx1.cell 3
  have e3 := hb2.cell 3
  simp at c3 e3
  have hS1 : (fun w' : World => w'.cell? ⟨bx, 3, none⟩ = some (.slice Ak j.keys.length ck) ∧ w'.cell? ⟨b, 3, none⟩ = some (.slice Ak2 j.keys.length ck2)) w2 := ⟨c3, e3⟩
  refine wpAnyC_take (fun w' : World => w'.cell? ⟨bx, 3, none⟩ = some (.slice Ak j.keys.length ck) ∧ w'.cell? ⟨b, 3, none⟩ = some (.slice Ak2 j.keys.length ck2)) [] (i := 0) (v := ?_) rfl (by kernel_rfl) (by kernel_rfl) (by kernel_rfl) (by kernel_rfl) (fun _ _ _ h => h) (fun _ _ _ _ _ h => h) (fun _ h => h) (Or.inl ⟨by rfl, ?_⟩) hS1 ?_; rotate_left; · (intro w hSw; (try dsimp only at hSw); obtain ⟨s0, s1⟩ := hSw; go_simp; try with_reducible rfl)
  simp only [Act.put, List.setIfInBounds_toArray]
  refine wpAnyC_take (fun w' : World => w'.cell? ⟨bx, 3, none⟩ = some (.slice Ak j.keys.length ck) ∧ w'.cell? ⟨b, 3, none⟩ = some (.slice Ak2 j.keys.length ck2)) [] (i := 2) (v := ?_) rfl (by kernel_rfl) (by kernel_rfl) (by kernel_rfl) (by kernel_rfl) (fun _ _ _ h => h) (fun _ _ _ _ _ h => h) (fun _ h => h) (Or.inl ⟨by rfl, ?_⟩) hS1 ?_; rotate_left; · (intro w hSw; (try dsimp only at hSw); obtain ⟨s0, s1⟩ := hSw; go_simp; try with_reducible rfl)
  simp only [Act.put]
  refine wpAnyC_take (fun w' : World => w'.cell? ⟨bx, 3, none⟩ = some (.slice Ak j.keys.length ck) ∧ w'.cell? ⟨b, 3, none⟩ = some (.slice Ak2 j.keys.length ck2)) [] (i := 3) (v := ?_) rfl (by kernel_rfl) (by kernel_rfl) (by kernel_rfl) (by kernel_rfl) (fun _ _ _ h => h) (fun _ _ _ _ _ h => h) (fun _ h => h) (Or.inl ⟨by rfl, ?_⟩) hS1 ?_; rotate_left; · (intro w hSw; (try dsimp only at hSw); obtain ⟨s0, s1⟩ := hSw; go_simp; try with_reducible rfl)
  simp only [Act.put]
  refine wpAnyC_take (fun w' : World => w'.cell? ⟨bx, 3, none⟩ = some (.slice Ak j.keys.length ck) ∧ w'.cell? ⟨b, 3, none⟩ = some (.slice Ak2 j.keys.length ck2)) [] (i := 4) (v := ?_) rfl (by kernel_rfl) (by kernel_rfl) (by kernel_rfl) (by kernel_rfl) (fun _ _ _ h => h) (fun _ _ _ _ _ h => h) (fun _ h => h) (Or.inl ⟨by rfl, ?_⟩) hS1 ?_; rotate_left; · (intro w hSw; (try dsimp only at hSw); obtain ⟨s0, s1⟩ := hSw; go_simp; try with_reducible rfl)
  simp only [Act.put]
  refine wpAnyC_take (fun w' : World => w'.cell? ⟨bx, 3, none⟩ = some (.slice Ak j.keys.length ck) ∧ w'.cell? ⟨b, 3, none⟩ = some (.slice Ak2 j.keys.length ck2)) [] (i := 1) (v := ?_) rfl (by kernel_rfl) (by kernel_rfl) (by kernel_rfl) (by kernel_rfl) (fun _ _ _ h => h) (fun _ _ _ _ _ h => h) (fun _ h => h) (Or.inl ⟨by rfl, ?_⟩) hS1 ?_; rotate_left; · (intro w hSw; (try dsimp only at hSw); obtain ⟨s0, s1⟩ := hSw; go_simp; try with_reducible rfl)
  simp only [Act.put]
  refine wpAnyC_take (fun w' : World => w'.cell? ⟨bx, 3, none⟩ = some (.slice Ak j.keys.length ck) ∧ w'.cell? ⟨b, 3, none⟩ = some (.slice Ak2 j.keys.length ck2)) [] (i := 5) (v := ?_) rfl (by kernel_rfl) (by kernel_rfl) (by kernel_rfl) (by kernel_rfl) (fun _ _ _ h => h) (fun _ _ _ _ _ h => h) (fun _ h => h) (Or.inl ⟨by rfl, ?_⟩) hS1 ?_; rotate_left; · (intro w hSw; (try dsimp only at hSw); obtain ⟨s0, s1⟩ := hSw; go_simp; try with_reducible rfl)
  simp only [Act.put]
  clear hS1
  have hx1 : Rd w2 w2.heap.size 1 Ak j.keys.length (txtV j.keys) := ((Hk1.out.rd).below hbl1).more hbl1.size
  have hx2 : Rd w2 w2.heap.size 1 Ak2 j.keys.length (txtV j.keys) := ((Hk2.out.rd).below hbl1).more hbl1.size
  have htx := texts_walk8 Ak Ak2 ck ck2 j.keys j.keys w2 hx1 hx2 hk8 hk8
  rw [decide_eq_true rfl] at htx
  clear hx1 hx2
  refine wpAnyC_one (i := 6) (by kernel_rfl) rfl (fun K hK => ?_)
  go_simp
  ((with_reducible refine htx.mono ?_))
  rintro e w3 ⟨rfl, hb3⟩
  have c3 := (hb3.cell (p := ⟨bx, 3, none⟩) hBx1.lt).trans c3
  have e3 := (hb3.cell (p := ⟨b, 3, none⟩) hb2.lt).trans e3
  refine hK.out _ _ ⟨c3, e3⟩ ?_
  clear hK K htx
  refine wpAnyC_one (i := 7) (by kernel_rfl) rfl (fun K hK => ?_)
  go_simp
  refine hK.out _ _ ⟨c3, e3⟩ ?_
  clear hK K c3 e3
  refine wpAnyC_done (by kernel_rfl) ?_ _
  have hBx3 := hBx1.below hb3 hBx1.lt
  have hb4 := hb2.below hb3 hb2.lt
  have hbl3 := hbl1.trans (hb3.mono hbl1.size)
  clear hBx1 hb2 hbl1 hb3
  have c0 := hBx3.cell 0
  have c1 := hBx3.cell 1
  have c2 := hBx3.cell 2
  have c4 := hBx3.cell 4
  have e0 := hb4.cell 0
  have e1 := hb4.cell 1
  have e2 := hb4.cell 2
  have e4 := hb4.cell 4
  simp [strV] at c0 c1 c2 c4 e0 e1 e2 e4
  go_wp2_with fail
  go_quiet (fail)
  go_wp2_with fail
  clear c0 c1 c2 c4 e0 e1 e2 e4
  go_loopg [6] (j.kids.length) (fun q v wr => ∃ k : Nat, v = .int .i64 k ∧ j.kids.length - k ≤ q ∧ k ≤ j.kids.length ∧ Blk wr bx 70 #[.int .i64 j.kind, .int .i64 j.num, .string ⟨j.text.toArray⟩, .slice Ak j.keys.length ck, .slice Ad j.kids.length cd] ∧ Blk wr b 78 #[.int .i64 j.kind, .int .i64 j.num, strV j.text, .slice Ak2 j.keys.length ck2, .slice Ad2 j.kids.length cd2] ∧ Below w.heap.size w wr)
  case atStart => exact ⟨0, rfl, by omega, Nat.zero_le _, hBx3.drewN _, hb4.drewN _, below_drewN hbl3 _⟩
  case round =>
    clear hBx3 hb4 hbl3
    obtain ⟨k, rfl, hq, hkn, hBx, hb, hbl⟩ := hrel
    have c4 := hBx.cell 4
    have e4 := hb.cell 4
    simp at c4 e4
    have j0 : (0 : Int) ≤ (k : Int) := by omega
    by_cases hk : k < j.kids.length
    · have j1 : (k : Int) < (j.kids.length : Int) := by omega
      obtain ⟨hd1, hd2⟩ := Hkids.out
      obtain ⟨ba, oa, rfl, _, hba, hda⟩ := hd1 (by omega)
      obtain ⟨bc, oc, rfl, _, hbc, hdc⟩ := hd2 (by omega)
      obtain ⟨Akk, ckk, Adk, cdk, hck, hr1, hr2, hr3, hr4⟩ := hda k hk
      obtain ⟨bk, hbk, hrk⟩ := hdc k hk
      have hwj : (j.kids[k]).wt ≤ 50331648 := by
        have h1 := wts_mem (List.getElem_mem hk)
        have h2 := Hw.out.1
        have h3 := Hw.out.2
        omega
      have hjk : JInF w (fun _ => True) d j.kids[k] Akk ckk Adk := ⟨hr1, hr2, hr3, hr4⟩
      have hkp : 0 < j.kids.length := by omega
      generalize j.kids[k] = jk at *
      have q0 : w.cell? ⟨ba, oa + k * 5, none⟩ = some (.int .i64 jk.kind) := hck 0 _ rfl
      have q1 : w.cell? ⟨ba, oa + k * 5 + 1, none⟩ = some (.int .i64 jk.num) := hck 1 _ rfl
      have q2 : w.cell? ⟨ba, oa + k * 5 + 2, none⟩ = some (.string ⟨jk.text.toArray⟩) := hck 2 _ rfl
      have q3 : w.cell? ⟨ba, oa + k * 5 + 3, none⟩ = some (.slice Akk jk.keys.length ckk) := hck 3 _ rfl
      have q4 : w.cell? ⟨ba, oa + k * 5 + 4, none⟩ = some (.slice Adk jk.kids.length cdk) := hck 4 _ rfl
      have p0 := (hbl.cell (p := ⟨ba, oa + k * 5, none⟩) hba).trans q0
      have p1 := (hbl.cell (p := ⟨ba, oa + k * 5 + 1, none⟩) hba).trans q1
      have p2 := (hbl.cell (p := ⟨ba, oa + k * 5 + 2, none⟩) hba).trans q2
      have p3 := (hbl.cell (p := ⟨ba, oa + k * 5 + 3, none⟩) hba).trans q3
      have p4 := (hbl.cell (p := ⟨ba, oa + k * 5 + 4, none⟩) hba).trans q4
      have p5 := (hbl.cell (p := ⟨bc, oc + k, none⟩) hbc).trans hbk
      have hjw := hjk.keep (F' := fun _ => True) (KeepF.below hbl) (fun _ _ _ => trivial)
      have hrw := hrk.keep (F' := fun _ => True) (KeepF.below hbl) (fun _ _ _ => trivial)
      clear hd1 hd2 hda hdc hck hr1 hr2 hr3 hr4 hbk hrk hjk q0 q1 q2 q3 q4
      go_upto_region 7 with fail
      refine wp_region_C (fun _ w' => w'.cell? ⟨bx, 4, none⟩ = some (.slice (some ⟨ba, oa, none⟩) j.kids.length cd) ∧ w'.cell? ⟨b, 4, none⟩ = some (.slice (some ⟨bc, oc, none⟩) j.kids.length cd2) ∧ (w'.cell? ⟨ba, oa + k * 5, none⟩ = some (.int .i64 jk.kind) ∧ w'.cell? ⟨ba, oa + k * 5 + 1, none⟩ = some (.int .i64 jk.num) ∧ w'.cell? ⟨ba, oa + k * 5 + 2, none⟩ = some (.string ⟨jk.text.toArray⟩) ∧ w'.cell? ⟨ba, oa + k * 5 + 3, none⟩ = some (.slice Akk jk.keys.length ckk) ∧ w'.cell? ⟨ba, oa + k * 5 + 4, none⟩ = some (.slice Adk jk.kids.length cdk)) ∧ w'.cell? ⟨bc, oc + k, none⟩ = some (.pointer (some ⟨bk, 0, none⟩))) (by kernel_rfl) ?_
      have hBx1 := hBx.drew
      have hb2 := hb.drew
      have hbl1 := hbl.drew
      have hS2 : (fun w' : World => w'.cell? ⟨bx, 4, none⟩ = some (.slice (some ⟨ba, oa, none⟩) j.kids.length cd) ∧ w'.cell? ⟨b, 4, none⟩ = some (.slice (some ⟨bc, oc, none⟩) j.kids.length cd2) ∧ (w'.cell? ⟨ba, oa + k * 5, none⟩ = some (.int .i64 jk.kind) ∧ w'.cell? ⟨ba, oa + k * 5 + 1, none⟩ = some (.int .i64 jk.num) ∧ w'.cell? ⟨ba, oa + k * 5 + 2, none⟩ = some (.string ⟨jk.text.toArray⟩) ∧ w'.cell? ⟨ba, oa + k * 5 + 3, none⟩ = some (.slice Akk jk.keys.length ckk) ∧ w'.cell? ⟨ba, oa + k * 5 + 4, none⟩ = some (.slice Adk jk.kids.length cdk)) ∧ w'.cell? ⟨bc, oc + k, none⟩ = some (.pointer (some ⟨bk, 0, none⟩))) (World.drew wr) := ⟨c4, e4, ⟨p0, p1, p2, p3, p4⟩, p5⟩
      have hc := ih hkp jk Akk Adk ckk cdk bk (World.drew wr) hwj (hjw.keep (F' := fun _ => True) ⟨Nat.le_refl _, fun _ _ _ => rfl⟩ (fun _ _ _ => trivial)) (hrw.keep (F' := fun _ => True) ⟨Nat.le_refl _, fun _ _ _ => rfl⟩ (fun _ _ _ => trivial))
      unfold jVal strV at hc
      have hbw : ba < (World.drew wr).heap.size ∧ bc < (World.drew wr).heap.size := ⟨Nat.lt_of_lt_of_le hba hbl1.size, Nat.lt_of_lt_of_le hbc hbl1.size⟩
      have HS2 := Lib.hid hS2
      clear hBx hb hbl c4 e4 p0 p1 p2 p3 p4 p5 hjw hrw
      generalize World.drew wr = wr at *
      refine wpAnyC_take (fun w' : World => w'.cell? ⟨bx, 4, none⟩ = some (.slice (some ⟨ba, oa, none⟩) j.kids.length cd) ∧ w'.cell? ⟨b, 4, none⟩ = some (.slice (some ⟨bc, oc, none⟩) j.kids.length cd2) ∧ (w'.cell? ⟨ba, oa + k * 5, none⟩ = some (.int .i64 jk.kind) ∧ w'.cell? ⟨ba, oa + k * 5 + 1, none⟩ = some (.int .i64 jk.num) ∧ w'.cell? ⟨ba, oa + k * 5 + 2, none⟩ = some (.string ⟨jk.text.toArray⟩) ∧ w'.cell? ⟨ba, oa + k * 5 + 3, none⟩ = some (.slice Akk jk.keys.length ckk) ∧ w'.cell? ⟨ba, oa + k * 5 + 4, none⟩ = some (.slice Adk jk.kids.length cdk)) ∧ w'.cell? ⟨bc, oc + k, none⟩ = some (.pointer (some ⟨bk, 0, none⟩))) [] (i := 0) (v := ?_) rfl (by kernel_rfl) (by kernel_rfl) (by kernel_rfl) (by kernel_rfl) (fun _ _ _ h => h) (fun _ _ _ _ _ h => h) (fun _ h => h) (Or.inl ⟨by rfl, ?_⟩) hS2 ?_; rotate_left; · (intro w hSw; (try dsimp only at hSw); obtain ⟨s0, s1, ⟨s2, s3, s4, s5, s6⟩, s7⟩ := hSw; go_simp; try with_reducible rfl)
      simp only [Act.put, List.setIfInBounds_toArray]
      refine wpAnyC_take (fun w' : World => w'.cell? ⟨bx, 4, none⟩ = some (.slice (some ⟨ba, oa, none⟩) j.kids.length cd) ∧ w'.cell? ⟨b, 4, none⟩ = some (.slice (some ⟨bc, oc, none⟩) j.kids.length cd2) ∧ (w'.cell? ⟨ba, oa + k * 5, none⟩ = some (.int .i64 jk.kind) ∧ w'.cell? ⟨ba, oa + k * 5 + 1, none⟩ = some (.int .i64 jk.num) ∧ w'.cell? ⟨ba, oa + k * 5 + 2, none⟩ = some (.string ⟨jk.text.toArray⟩) ∧ w'.cell? ⟨ba, oa + k * 5 + 3, none⟩ = some (.slice Akk jk.keys.length ckk) ∧ w'.cell? ⟨ba, oa + k * 5 + 4, none⟩ = some (.slice Adk jk.kids.length cdk)) ∧ w'.cell? ⟨bc, oc + k, none⟩ = some (.pointer (some ⟨bk, 0, none⟩))) [] (i := 1) (v := ?_) rfl (by kernel_rfl) (by kernel_rfl) (by kernel_rfl) (by kernel_rfl) (fun _ _ _ h => h) (fun _ _ _ _ _ h => h) (fun _ h => h) (Or.inl ⟨by rfl, ?_⟩) hS2 ?_; rotate_left; · (intro w hSw; (try dsimp only at hSw); obtain ⟨s0, s1, ⟨s2, s3, s4, s5, s6⟩, s7⟩ := hSw; go_simp; try with_reducible rfl)
      simp only [Act.put]
      refine wpAnyC_take (fun w' : World => w'.cell? ⟨bx, 4, none⟩ = some (.slice (some ⟨ba, oa, none⟩) j.kids.length cd) ∧ w'.cell? ⟨b, 4, none⟩ = some (.slice (some ⟨bc, oc, none⟩) j.kids.length cd2) ∧ (w'.cell? ⟨ba, oa + k * 5, none⟩ = some (.int .i64 jk.kind) ∧ w'.cell? ⟨ba, oa + k * 5 + 1, none⟩ = some (.int .i64 jk.num) ∧ w'.cell? ⟨ba, oa + k * 5 + 2, none⟩ = some (.string ⟨jk.text.toArray⟩) ∧ w'.cell? ⟨ba, oa + k * 5 + 3, none⟩ = some (.slice Akk jk.keys.length ckk) ∧ w'.cell? ⟨ba, oa + k * 5 + 4, none⟩ = some (.slice Adk jk.kids.length cdk)) ∧ w'.cell? ⟨bc, oc + k, none⟩ = some (.pointer (some ⟨bk, 0, none⟩))) [] (i := 2) (v := ?_) rfl (by kernel_rfl) (by kernel_rfl) (by kernel_rfl) (by kernel_rfl) (fun _ _ _ h => h) (fun _ _ _ _ _ h => h) (fun _ h => h) (Or.inl ⟨by rfl, ?_⟩) hS2 ?_; rotate_left; · (intro w hSw; (try dsimp only at hSw); obtain ⟨s0, s1, ⟨s2, s3, s4, s5, s6⟩, s7⟩ := hSw; go_simp; try with_reducible rfl)
      simp only [Act.put]
      refine wpAnyC_take (fun w' : World => w'.cell? ⟨bx, 4, none⟩ = some (.slice (some ⟨ba, oa, none⟩) j.kids.length cd) ∧ w'.cell? ⟨b, 4, none⟩ = some (.slice (some ⟨bc, oc, none⟩) j.kids.length cd2) ∧ (w'.cell? ⟨ba, oa + k * 5, none⟩ = some (.int .i64 jk.kind) ∧ w'.cell? ⟨ba, oa + k * 5 + 1, none⟩ = some (.int .i64 jk.num) ∧ w'.cell? ⟨ba, oa + k * 5 + 2, none⟩ = some (.string ⟨jk.text.toArray⟩) ∧ w'.cell? ⟨ba, oa + k * 5 + 3, none⟩ = some (.slice Akk jk.keys.length ckk) ∧ w'.cell? ⟨ba, oa + k * 5 + 4, none⟩ = some (.slice Adk jk.kids.length cdk)) ∧ w'.cell? ⟨bc, oc + k, none⟩ = some (.pointer (some ⟨bk, 0, none⟩))) [] (i := 3) (v := ?_) rfl (by kernel_rfl) (by kernel_rfl) (by kernel_rfl) (by kernel_rfl) (fun _ _ _ h => h) (fun _ _ _ _ _ h => h) (fun _ h => h) (Or.inl ⟨by rfl, ?_⟩) hS2 ?_; rotate_left; · (intro w hSw; (try dsimp only at hSw); obtain ⟨s0, s1, ⟨s2, s3, s4, s5, s6⟩, s7⟩ := hSw; go_simp; try with_reducible rfl)
      simp only [Act.put]
      refine wpAnyC_take (fun w' : World => w'.cell? ⟨bx, 4, none⟩ = some (.slice (some ⟨ba, oa, none⟩) j.kids.length cd) ∧ w'.cell? ⟨b, 4, none⟩ = some (.slice (some ⟨bc, oc, none⟩) j.kids.length cd2) ∧ (w'.cell? ⟨ba, oa + k * 5, none⟩ = some (.int .i64 jk.kind) ∧ w'.cell? ⟨ba, oa + k * 5 + 1, none⟩ = some (.int .i64 jk.num) ∧ w'.cell? ⟨ba, oa + k * 5 + 2, none⟩ = some (.string ⟨jk.text.toArray⟩) ∧ w'.cell? ⟨ba, oa + k * 5 + 3, none⟩ = some (.slice Akk jk.keys.length ckk) ∧ w'.cell? ⟨ba, oa + k * 5 + 4, none⟩ = some (.slice Adk jk.kids.length cdk)) ∧ w'.cell? ⟨bc, oc + k, none⟩ = some (.pointer (some ⟨bk, 0, none⟩))) [] (i := 4) (v := ?_) rfl (by kernel_rfl) (by kernel_rfl) (by kernel_rfl) (by kernel_rfl) (fun _ _ _ h => h) (fun _ _ _ _ _ h => h) (fun _ h => h) (Or.inl ⟨by rfl, ?_⟩) hS2 ?_; rotate_left; · (intro w hSw; (try dsimp only at hSw); obtain ⟨s0, s1, ⟨s2, s3, s4, s5, s6⟩, s7⟩ := hSw; go_simp; try with_reducible rfl)
      simp only [Act.put]
      refine wpAnyC_take (fun w' : World => w'.cell? ⟨bx, 4, none⟩ = some (.slice (some ⟨ba, oa, none⟩) j.kids.length cd) ∧ w'.cell? ⟨b, 4, none⟩ = some (.slice (some ⟨bc, oc, none⟩) j.kids.length cd2) ∧ (w'.cell? ⟨ba, oa + k * 5, none⟩ = some (.int .i64 jk.kind) ∧ w'.cell? ⟨ba, oa + k * 5 + 1, none⟩ = some (.int .i64 jk.num) ∧ w'.cell? ⟨ba, oa + k * 5 + 2, none⟩ = some (.string ⟨jk.text.toArray⟩) ∧ w'.cell? ⟨ba, oa + k * 5 + 3, none⟩ = some (.slice Akk jk.keys.length ckk) ∧ w'.cell? ⟨ba, oa + k * 5 + 4, none⟩ = some (.slice Adk jk.kids.length cdk)) ∧ w'.cell? ⟨bc, oc + k, none⟩ = some (.pointer (some ⟨bk, 0, none⟩))) [] (i := 5) (v := ?_) rfl (by kernel_rfl) (by kernel_rfl) (by kernel_rfl) (by kernel_rfl) (fun _ _ _ h => h) (fun _ _ _ _ _ h => h) (fun _ h => h) (Or.inl ⟨by rfl, ?_⟩) hS2 ?_; rotate_left; · (intro w hSw; (try dsimp only at hSw); obtain ⟨s0, s1, ⟨s2, s3, s4, s5, s6⟩, s7⟩ := hSw; go_simp; try with_reducible rfl)
      simp only [Act.put]
      refine wpAnyC_take (fun w' : World => w'.cell? ⟨bx, 4, none⟩ = some (.slice (some ⟨ba, oa, none⟩) j.kids.length cd) ∧ w'.cell? ⟨b, 4, none⟩ = some (.slice (some ⟨bc, oc, none⟩) j.kids.length cd2) ∧ (w'.cell? ⟨ba, oa + k * 5, none⟩ = some (.int .i64 jk.kind) ∧ w'.cell? ⟨ba, oa + k * 5 + 1, none⟩ = some (.int .i64 jk.num) ∧ w'.cell? ⟨ba, oa + k * 5 + 2, none⟩ = some (.string ⟨jk.text.toArray⟩) ∧ w'.cell? ⟨ba, oa + k * 5 + 3, none⟩ = some (.slice Akk jk.keys.length ckk) ∧ w'.cell? ⟨ba, oa + k * 5 + 4, none⟩ = some (.slice Adk jk.kids.length cdk)) ∧ w'.cell? ⟨bc, oc + k, none⟩ = some (.pointer (some ⟨bk, 0, none⟩))) [] (i := 6) (v := ?_) rfl (by kernel_rfl) (by kernel_rfl) (by kernel_rfl) (by kernel_rfl) (fun _ _ _ h => h) (fun _ _ _ _ _ h => h) (fun _ h => h) (Or.inl ⟨by rfl, ?_⟩) hS2 ?_; rotate_left; · (intro w hSw; (try dsimp only at hSw); obtain ⟨s0, s1, ⟨s2, s3, s4, s5, s6⟩, s7⟩ := hSw; go_simp; try with_reducible rfl)
      simp only [Act.put]
      refine wpAnyC_take (fun w' : World => w'.cell? ⟨bx, 4, none⟩ = some (.slice (some ⟨ba, oa, none⟩) j.kids.length cd) ∧ w'.cell? ⟨b, 4, none⟩ = some (.slice (some ⟨bc, oc, none⟩) j.kids.length cd2) ∧ (w'.cell? ⟨ba, oa + k * 5, none⟩ = some (.int .i64 jk.kind) ∧ w'.cell? ⟨ba, oa + k * 5 + 1, none⟩ = some (.int .i64 jk.num) ∧ w'.cell? ⟨ba, oa + k * 5 + 2, none⟩ = some (.string ⟨jk.text.toArray⟩) ∧ w'.cell? ⟨ba, oa + k * 5 + 3, none⟩ = some (.slice Akk jk.keys.length ckk) ∧ w'.cell? ⟨ba, oa + k * 5 + 4, none⟩ = some (.slice Adk jk.kids.length cdk)) ∧ w'.cell? ⟨bc, oc + k, none⟩ = some (.pointer (some ⟨bk, 0, none⟩))) [] (i := 7) (v := ?_) rfl (by kernel_rfl) (by kernel_rfl) (by kernel_rfl) (by kernel_rfl) (fun _ _ _ h => h) (fun _ _ _ _ _ h => h) (fun _ h => h) (Or.inl ⟨by rfl, ?_⟩) hS2 ?_; rotate_left; · (intro w hSw; (try dsimp only at hSw); obtain ⟨s0, s1, ⟨s2, s3, s4, s5, s6⟩, s7⟩ := hSw; go_simp; try with_reducible rfl)
      simp only [Act.put]
      refine wpAnyC_take (fun w' : World => w'.cell? ⟨bx, 4, none⟩ = some (.slice (some ⟨ba, oa, none⟩) j.kids.length cd) ∧ w'.cell? ⟨b, 4, none⟩ = some (.slice (some ⟨bc, oc, none⟩) j.kids.length cd2) ∧ (w'.cell? ⟨ba, oa + k * 5, none⟩ = some (.int .i64 jk.kind) ∧ w'.cell? ⟨ba, oa + k * 5 + 1, none⟩ = some (.int .i64 jk.num) ∧ w'.cell? ⟨ba, oa + k * 5 + 2, none⟩ = some (.string ⟨jk.text.toArray⟩) ∧ w'.cell? ⟨ba, oa + k * 5 + 3, none⟩ = some (.slice Akk jk.keys.length ckk) ∧ w'.cell? ⟨ba, oa + k * 5 + 4, none⟩ = some (.slice Adk jk.kids.length cdk)) ∧ w'.cell? ⟨bc, oc + k, none⟩ = some (.pointer (some ⟨bk, 0, none⟩))) [] (i := 8) (v := ?_) rfl (by kernel_rfl) (by kernel_rfl) (by kernel_rfl) (by kernel_rfl) (fun _ _ _ h => h) (fun _ _ _ _ _ h => h) (fun _ h => h) (Or.inl ⟨by rfl, ?_⟩) hS2 ?_; rotate_left; · (intro w hSw; (try dsimp only at hSw); obtain ⟨s0, s1, ⟨s2, s3, s4, s5, s6⟩, s7⟩ := hSw; go_simp; try with_reducible rfl)
      simp only [Act.put]
      refine wpAnyC_take (fun w' : World => w'.cell? ⟨bx, 4, none⟩ = some (.slice (some ⟨ba, oa, none⟩) j.kids.length cd) ∧ w'.cell? ⟨b, 4, none⟩ = some (.slice (some ⟨bc, oc, none⟩) j.kids.length cd2) ∧ (w'.cell? ⟨ba, oa + k * 5, none⟩ = some (.int .i64 jk.kind) ∧ w'.cell? ⟨ba, oa + k * 5 + 1, none⟩ = some (.int .i64 jk.num) ∧ w'.cell? ⟨ba, oa + k * 5 + 2, none⟩ = some (.string ⟨jk.text.toArray⟩) ∧ w'.cell? ⟨ba, oa + k * 5 + 3, none⟩ = some (.slice Akk jk.keys.length ckk) ∧ w'.cell? ⟨ba, oa + k * 5 + 4, none⟩ = some (.slice Adk jk.kids.length cdk)) ∧ w'.cell? ⟨bc, oc + k, none⟩ = some (.pointer (some ⟨bk, 0, none⟩))) [] (i := 9) (v := ?_) rfl (by kernel_rfl) (by kernel_rfl) (by kernel_rfl) (by kernel_rfl) (fun _ _ _ h => h) (fun _ _ _ _ _ h => h) (fun _ h => h) (Or.inl ⟨by rfl, ?_⟩) hS2 ?_; rotate_left; · (intro w hSw; (try dsimp only at hSw); obtain ⟨s0, s1, ⟨s2, s3, s4, s5, s6⟩, s7⟩ := hSw; go_simp; try with_reducible rfl)
      simp only [Act.put]
      refine wpAnyC_take (fun w' : World => w'.cell? ⟨bx, 4, none⟩ = some (.slice (some ⟨ba, oa, none⟩) j.kids.length cd) ∧ w'.cell? ⟨b, 4, none⟩ = some (.slice (some ⟨bc, oc, none⟩) j.kids.length cd2) ∧ (w'.cell? ⟨ba, oa + k * 5, none⟩ = some (.int .i64 jk.kind) ∧ w'.cell? ⟨ba, oa + k * 5 + 1, none⟩ = some (.int .i64 jk.num) ∧ w'.cell? ⟨ba, oa + k * 5 + 2, none⟩ = some (.string ⟨jk.text.toArray⟩) ∧ w'.cell? ⟨ba, oa + k * 5 + 3, none⟩ = some (.slice Akk jk.keys.length ckk) ∧ w'.cell? ⟨ba, oa + k * 5 + 4, none⟩ = some (.slice Adk jk.kids.length cdk)) ∧ w'.cell? ⟨bc, oc + k, none⟩ = some (.pointer (some ⟨bk, 0, none⟩))) [] (i := 10) (v := ?_) rfl (by kernel_rfl) (by kernel_rfl) (by kernel_rfl) (by kernel_rfl) (fun _ _ _ h => h) (fun _ _ _ _ _ h => h) (fun _ h => h) (Or.inl ⟨by rfl, ?_⟩) hS2 ?_; rotate_left; · (intro w hSw; (try dsimp only at hSw); obtain ⟨s0, s1, ⟨s2, s3, s4, s5, s6⟩, s7⟩ := hSw; go_simp; try with_reducible rfl)
      simp only [Act.put]
      refine wpAnyC_take (fun w' : World => w'.cell? ⟨bx, 4, none⟩ = some (.slice (some ⟨ba, oa, none⟩) j.kids.length cd) ∧ w'.cell? ⟨b, 4, none⟩ = some (.slice (some ⟨bc, oc, none⟩) j.kids.length cd2) ∧ (w'.cell? ⟨ba, oa + k * 5, none⟩ = some (.int .i64 jk.kind) ∧ w'.cell? ⟨ba, oa + k * 5 + 1, none⟩ = some (.int .i64 jk.num) ∧ w'.cell? ⟨ba, oa + k * 5 + 2, none⟩ = some (.string ⟨jk.text.toArray⟩) ∧ w'.cell? ⟨ba, oa + k * 5 + 3, none⟩ = some (.slice Akk jk.keys.length ckk) ∧ w'.cell? ⟨ba, oa + k * 5 + 4, none⟩ = some (.slice Adk jk.kids.length cdk)) ∧ w'.cell? ⟨bc, oc + k, none⟩ = some (.pointer (some ⟨bk, 0, none⟩))) [] (i := 11) (v := ?_) rfl (by kernel_rfl) (by kernel_rfl) (by kernel_rfl) (by kernel_rfl) (fun _ _ _ h => h) (fun _ _ _ _ _ h => h) (fun _ h => h) (Or.inl ⟨by rfl, ?_⟩) hS2 ?_; rotate_left; · (intro w hSw; (try dsimp only at hSw); obtain ⟨s0, s1, ⟨s2, s3, s4, s5, s6⟩, s7⟩ := hSw; go_simp; try with_reducible rfl)
      simp only [Act.put]
      clear hS2
      refine wpAnyC_one (i := 12) (by kernel_rfl) rfl (fun K hK => ?_)
      go_simp
      ((with_reducible refine hc.mono ?_))
      rintro e w3 ⟨rfl, hb3⟩
      have hk : ∀ b' o v, b' < wr.heap.size → wr.cell? ⟨b', o, none⟩ = some v → w3.cell? ⟨b', o, none⟩ = some v := fun b' o v h1 h2 => (hb3.cell (p := ⟨b', o, none⟩) h1).trans h2
      have hS3 : (fun w' : World => w'.cell? ⟨bx, 4, none⟩ = some (.slice (some ⟨ba, oa, none⟩) j.kids.length cd) ∧ w'.cell? ⟨b, 4, none⟩ = some (.slice (some ⟨bc, oc, none⟩) j.kids.length cd2) ∧ (w'.cell? ⟨ba, oa + k * 5, none⟩ = some (.int .i64 jk.kind) ∧ w'.cell? ⟨ba, oa + k * 5 + 1, none⟩ = some (.int .i64 jk.num) ∧ w'.cell? ⟨ba, oa + k * 5 + 2, none⟩ = some (.string ⟨jk.text.toArray⟩) ∧ w'.cell? ⟨ba, oa + k * 5 + 3, none⟩ = some (.slice Akk jk.keys.length ckk) ∧ w'.cell? ⟨ba, oa + k * 5 + 4, none⟩ = some (.slice Adk jk.kids.length cdk)) ∧ w'.cell? ⟨bc, oc + k, none⟩ = some (.pointer (some ⟨bk, 0, none⟩))) w3 := ⟨hk _ _ _ hBx1.lt HS2.out.1, hk _ _ _ hb2.lt HS2.out.2.1, ⟨hk _ _ _ hbw.1 HS2.out.2.2.1.1, hk _ _ _ hbw.1 HS2.out.2.2.1.2.1, hk _ _ _ hbw.1 HS2.out.2.2.1.2.2.1, hk _ _ _ hbw.1 HS2.out.2.2.1.2.2.2.1, hk _ _ _ hbw.1 HS2.out.2.2.1.2.2.2.2⟩, hk _ _ _ hbw.2 HS2.out.2.2.2⟩
      have HS3 := Lib.hid hS3
      clear hS3 hk hc HS2
      refine hK.out _ _ HS3.out ?_
      clear hK K
      refine wpAnyC_one (i := 13) (by kernel_rfl) rfl (fun K hK => ?_)
      go_simp
      refine hK.out _ _ HS3.out ?_
      clear hK K
      refine wpAnyC_done (by kernel_rfl) ?_ _
      have hBx3 := hBx1.below hb3 hBx1.lt
      have hb4 := hb2.below hb3 hb2.lt
      have hbl3 := hbl1.trans (hb3.mono hbl1.size)
      clear hBx1 hb2 hbl1 hb3 HS3
      go_wp2_with fail
      go_roundg (j.kids.length - (k + 1))
      case rel => exact ⟨k + 1, rfl, Nat.le_refl _, by omega, hBx3, hb4, hbl3⟩
      case measure => omega
    · obtain rfl : k = j.kids.length := by omega
      go_wp2_with fail
      go_ret
      exact ⟨rfl, hbl⟩
/-- what both have read is the same -/
theorem samejson_walk : ∀ (d : Nat) (j : JT) (Ak Ad : Option Addr) (ck cd b : Nat) (w : World), j.wt ≤ 50331648 → JInF w (fun _ => True) d j Ak ck Ad → RjF w (fun _ => True) (d + 1) j b →
      Calls Tryz.prog 32 #[jVal j Ak ck Ad cd, .pointer (some ⟨b, 0, none⟩)] w fun e w' => e = .returned (.bool true) ∧ Below w.heap.size w w'
  | 0, j, Ak, Ad, ck, cd, b, w, hw, hj, hr => samejson_step 0 j (fun h => absurd h (by have : j.kids = [] := hj.2.2.1; rw [this]; simp)) Ak Ad ck cd b w hw ⟨hj.1, hj.2.1, JsF.succ hj.2.2.1, hj.2.2.2⟩ (RjF.succ hr)
  | d + 1, j, Ak, Ad, ck, cd, b, w, hw, hj, hr => samejson_step d j (fun _ => samejson_walk d) Ak Ad ck cd b w hw hj hr
end Go.Proofs.YtgpjcjnimheglaaGreatDoor
/-
  THE WALK of the law WireParses.
-/
namespace Go.Proofs.YtgpjcjnimheglaaGreatDoor
open Go.RowKit

set_option maxHeartbeats 4000000 in
set_option maxRecDepth 100000 in
theorem parses_walk (s : Bs) (hl : s.length ≤ 1048576) (w : World) (hE : ErrT w) :
    Calls Tryz.prog 8 #[.string ⟨s.toArray⟩] w fun e w' => e = .returned (.bool true) ∧ Below w.heap.size w w' := by
  have hz : 0 < w.heap.size := World.block_lt_of_cell? w ⟨0, 0, none⟩ hE
  have hP := parse_walk s (by omega) w
  have hRp := fun w => rparse_walk s (by omega) w
  have HWt : Hid (∀ j k, Jp.parseP s = .ok j k → j.wt ≤ 50331648) := fun j k h => by have := (Jp.parse_right h).2.1; omega
  generalize Jp.parseP s = R at *
  go_enter Tryz.func8, Tryz.ntmps8
  go_wp2_with fail
  refine hP.mono ?_
  clear hP
  intro e w1 h1
  cases R with
  | bad p er =>
    obtain ⟨hb1, rfl⟩ := (show Below w.heap.size w w1 ∧ e = .returned (.tuple #[.agg (jz 0 0 []), .int .i64 p, .iface 64 (.int .i64 er)]) from h1)
    clear h1
    simp only [jz]
    have hbl : Below w1.heap.size w1 (w1.alloc (.cells #[.int .i64 0, .int .i64 0, .string ⟨#[]⟩, .slice none 0 0, .slice none 0 0] 70)) := (Below.refl _ _).alloc (Nat.le_refl _) _
    obtain ⟨bx, hbx⟩ : ∃ b, b = w1.heap.size := ⟨_, rfl⟩
    have hBx : Blk (w1.alloc (.cells #[.int .i64 0, .int .i64 0, .string ⟨#[]⟩, .slice none 0 0, .slice none 0 0] 70)) bx 70 #[.int .i64 0, .int .i64 0, .string ⟨#[]⟩, .slice none 0 0, .slice none 0 0] := by rw [hbx]; exact Blk.new _ _ _
    go_upto_region 2 with fail
    rw [← hbx]
    have hb2 := hb1.trans (hbl.mono hb1.size)
    clear hbx hbl hb1
    generalize w1.alloc (.cells #[.int .i64 0, .int .i64 0, .string ⟨#[]⟩, .slice none 0 0, .slice none 0 0] 70) = w2 at *
    go_wp2_with fail
    refine (hRp w2).mono ?_
    clear hRp
    intro e w3 h3
    obtain ⟨hb3, rfl, her⟩ := (show Below w2.heap.size w2 w3 ∧ e = .returned (.tuple #[.pointer none, .int .i64 p, .int .i64 er]) ∧ 0 < er from h3)
    clear h3
    have hB3 := hBx.below hb3 hBx.lt
    have hbw := hb2.trans (hb3.mono hb2.size)
    clear hBx
    have hEr := error_yes er er w3 (hE.below hbw hz) rfl
    have hev : errV er = .iface 64 (.int .i64 er) := by
      cases er with
      | zero => omega
      | succ n => rfl
    rw [hev] at hEr
    clear hev
    go_wp2_with fail
    refine hEr.mono ?_
    clear hEr
    rintro e w4 ⟨rfl, hb4⟩
    have hB4 := hB3.below hb4 hB3.lt
    have hbw4 := hbw.trans (hb4.mono hbw.size)
    have e1 : ((er : Int) != 0) = true := by rw [bne_iff_ne]; omega
    clear hB3 hb4 hbw hb3 hb2
    go_upto_region 8 with fail
    have hbl : Below w4.heap.size w4 (w4.alloc (.cells #[.int .i64 0, .int .i64 0, .string ⟨#[]⟩, .slice none 0 0, .slice none 0 0] 78)) := (Below.refl _ _).alloc (Nat.le_refl _) _
    have hr : RjF (w4.alloc (.cells #[.int .i64 0, .int .i64 0, .string ⟨#[]⟩, .slice none 0 0, .slice none 0 0] 78)) (fun _ => True) (0 + 1) (.mk 0 0 [] [] []) w4.heap.size := by
      obtain ⟨b, e, h⟩ := rjV.box (w := w4) (B := 0) (d := 0) (kn := 0) (nn := 0) (t := []) (Nat.zero_le _)
      injection e with e
      injection e with e
      injection e with e
      subst e
      exact h.all
    have hB5 := hB4.below hbl hB4.lt
    have hbw5 := hbw4.trans (hbl.mono hbw4.size)
    obtain ⟨br, hbr⟩ : ∃ b, b = w4.heap.size := ⟨_, rfl⟩
    rw [← hbr] at hr
    rw [← hbr]
    clear hbr hbl hB4 hbw4 hE
    generalize w4.alloc (.cells #[.int .i64 0, .int .i64 0, .string ⟨#[]⟩, .slice none 0 0, .slice none 0 0] 78) = w5 at *
    have c0 := hB5.cell 0
    have c1 := hB5.cell 1
    have c2 := hB5.cell 2
    have c3 := hB5.cell 3
    have c4 := hB5.cell 4
    simp at c0 c1 c2 c3 c4
    have hsj := samejson_walk 0 (.mk 0 0 [] [] []) none none 0 0 br w5 (by decide) ⟨⟨rfl, fun h => absurd h (by simp [JT.keys])⟩, Nat.le_refl _, rfl, by simp [JT.num], by simp [JT.kind]⟩ hr
    have hsj : Calls Tryz.prog 32 #[.agg #[.int .i64 0, .int .i64 0, .string ⟨#[]⟩, .slice none 0 0, .slice none 0 0], .pointer (some ⟨br, 0, none⟩)] w5 _ := hsj
    go_wp2_with fail
    refine hsj.mono ?_
    rintro e w6 ⟨rfl, hb6⟩
    go_wp2_with fail
    go_ret
    exact ⟨rfl, hbw5.trans (hb6.mono hbw5.size)⟩
  | ok j k =>
    obtain ⟨hb1, Ak, ck, Ad, cd, rfl, hj⟩ := (show Below w.heap.size w w1 ∧ ∃ Ak ck Ad cd, e = .returned (.tuple #[jVal j Ak ck Ad cd, .int .i64 0, .nilIface]) ∧ JInF w1 (fun b => w.heap.size ≤ b) 41 j Ak ck Ad from h1)
    clear h1
    have hbl : Below w1.heap.size w1 (w1.alloc (.cells #[.int .i64 j.kind, .int .i64 j.num, .string ⟨j.text.toArray⟩, .slice Ak j.keys.length ck, .slice Ad j.kids.length cd] 70)) := (Below.refl _ _).alloc (Nat.le_refl _) _
    obtain ⟨bx, hbx⟩ : ∃ b, b = w1.heap.size := ⟨_, rfl⟩
    have hBx : Blk (w1.alloc (.cells #[.int .i64 j.kind, .int .i64 j.num, .string ⟨j.text.toArray⟩, .slice Ak j.keys.length ck, .slice Ad j.kids.length cd] 70)) bx 70 #[.int .i64 j.kind, .int .i64 j.num, .string ⟨j.text.toArray⟩, .slice Ak j.keys.length ck, .slice Ad j.kids.length cd] := by rw [hbx]; exact Blk.new _ _ _
    unfold jVal strV
    go_upto_region 2 with fail
    rw [← hbx]
    have hj2 := hj.keep (F' := fun _ => True) (KeepF.below hbl) (fun _ _ _ => trivial)
    have hb2 := hb1.trans (hbl.mono hb1.size)
    clear hbx hbl hb1 hj
    generalize w1.alloc (.cells #[.int .i64 j.kind, .int .i64 j.num, .string ⟨j.text.toArray⟩, .slice Ak j.keys.length ck, .slice Ad j.kids.length cd] 70) = w2 at *
    go_wp2_with fail
    refine (hRp w2).mono ?_
    clear hRp
    intro e w3 h3
    obtain ⟨hb3, v, rfl, hr⟩ := (show Below w2.heap.size w2 w3 ∧ ∃ v, e = .returned (.tuple #[v, .int .i64 0, .int .i64 0]) ∧ rjV w2.heap.size 41 j v w3 from h3)
    obtain ⟨br, rfl, hr⟩ := hr
    clear h3
    have hj3 := hj2.keep (F' := fun _ => True) (KeepF.below hb3) (fun _ _ _ => trivial)
    have hB3 := hBx.below hb3 hBx.lt
    have hbw := hb2.trans (hb3.mono hb2.size)
    have hbw0 := hbw.size
    clear hj2 hBx
    have hEr := error_yes 0 0 w3 (hE.below hbw hz) rfl
    simp only [errV] at hEr
    go_wp2_with fail
    refine hEr.mono ?_
    clear hEr
    rintro e w4 ⟨rfl, hb4⟩
    have hj4 := hj3.keep (F' := fun _ => True) (KeepF.below hb4) (fun _ _ _ => trivial)
    have hr4 := hr.keep (F' := fun _ => True) (KeepF.below hb4) (fun _ _ _ => trivial)
    have hB4 := hB3.below hb4 hB3.lt
    have hbw4 := hbw.trans (hb4.mono hbw.size)
    clear hj3 hr hB3 hb4 hbw hbw0 hb3 hb2
    have c0 := hB4.cell 0
    have c1 := hB4.cell 1
    have c2 := hB4.cell 2
    have c3 := hB4.cell 3
    have c4 := hB4.cell 4
    simp at c0 c1 c2 c3 c4
    have hsj := samejson_walk 41 j Ak Ad ck cd br w4 (HWt.out j k rfl) hj4 hr4.succ
    unfold jVal strV at hsj
    go_wp2_with fail
    refine hsj.mono ?_
    rintro e w5 ⟨rfl, hb5⟩
    go_wp2_with fail
    go_ret
    exact ⟨rfl, hbw4.trans (hb5.mono hbw4.size)⟩
end Go.Proofs.YtgpjcjnimheglaaGreatDoor
