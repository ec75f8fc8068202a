/-
  plain.Told, and errors.As at a target of type *api.Errno (after the guide's worked example Toyas): the number of an error; Error of package amanuensissame.
-/
import Derived.Test.YtgpjcjnimheglaaGreatDoorErrV
import Derived.LaidEql
import Derived.Stop.Asserts
import Derived.RowKitTokens
namespace Go.Proofs.YtgpjcjnimheglaaGreatDoor
open Go.RowKit Go.Extern.Stop Go.Stop Go.Extern

set_option maxRecDepth 100000 in
theorem as_nil (t : Value) (w : World) :
    Calls Tryz.prog 63 #[.nilIface, t] w fun e w' => e = .returned (.bool false) ∧ w' = w := by
  go_enter Tryz.func63, Tryz.ntmps63
  go_wp2
  go_ret
  exact ⟨rfl, rfl⟩

theorem as_valueOfP (t : Addr) (w : World) : (ReflectliteValue.unpack (.iface 147 (.pointer (some t)))).run Tryz.prog w
    = .ok (.agg #[.pointer (some ⟨10, 147, none⟩), .pointer (some ⟨w.heap.size, 0, none⟩), .int .u64 150]) (w.alloc (.cells #[.pointer (some t)] 147)) := by kernel_rfl
theorem as_typeP (a : Addr) (w : World) : (ReflectliteValue.methodAny (ReflectliteValue.valueError "reflectlite.Value.Type" 0) (fun t _ _ _ => ReflectliteType.toType t) #[.agg #[.pointer (some ⟨10, 147, none⟩), .pointer (some a), .int .u64 150]]).run Tryz.prog w
    = .ok (.iface 208 (.agg #[.pointer (some ⟨10, 147, none⟩)])) w := by kernel_rfl
theorem as_methodKind (h : Value) (w : World) : (Go.method 419 208 (.agg #[h]) "Kind").run Tryz.prog w = .ok (232, h) w := by kernel_rfl
theorem as_kindP (w : World) : ((ReflectliteType.abiMethod fun t => (fun a : Nat => Value.int IntKind.u8 (a : Int)) <$> Rtype.kind t) #[.pointer (some ⟨10, 147, none⟩)]).run Tryz.prog w = .ok (.int .u8 22) w := by kernel_rfl
theorem as_kindE (w : World) : ((ReflectliteType.abiMethod fun t => (fun a : Nat => Value.int IntKind.u8 (a : Int)) <$> Rtype.kind t) #[.pointer (some ⟨10, 64, none⟩)]).run Tryz.prog w = .ok (.int .u8 2) w := by kernel_rfl
theorem as_rlm (z : Sem Value) (f : TypeId → Addr → Nat → Nat → Sem Value) (v : Value) :
    ReflectliteValue.method z f #[v] = (do match ← ReflectliteValue.parts v with | none => z | some (t, a, fl) => f t a fl (fl % 32)) := rfl
theorem as_partsP (a : Addr) (w : World) : (ReflectliteValue.parts (.agg #[.pointer (some ⟨10, 147, none⟩), .pointer (some a), .int .u64 150])).run Tryz.prog w = .ok (some (147, a, 150)) w := by kernel_rfl
theorem as_isNilP (a p : Addr) (W : World) (ha : W.cell? a = some (.pointer (some p))) :
    (ReflectliteValue.method (ReflectliteValue.valueError "reflectlite.Value.IsNil" 0) ReflectliteValue.isNil #[.agg #[.pointer (some ⟨10, 147, none⟩), .pointer (some a), .int .u64 150]]).run Tryz.prog W = .ok (.bool false) W := by
  rw [as_rlm]
  simp only [Sem.run_bind, as_partsP, Result.andThen]
  simp [ReflectliteValue.isNil, loadVar, isAgg, underlying, Tryz.underlying147, ha, Result.andThen]
theorem as_methodElem (h : Value) (w : World) : (Go.method 419 208 (.agg #[h]) "Elem").run Tryz.prog w = .ok (252, .agg #[h]) w := by kernel_rfl
theorem as_methodImplements (h : Value) (w : World) : (Go.method 419 208 (.agg #[h]) "Implements").run Tryz.prog w = .ok (253, .agg #[h]) w := by kernel_rfl
theorem as_methodAssignableTo (h : Value) (w : World) : (Go.method 419 208 (.agg #[h]) "AssignableTo").run Tryz.prog w = .ok (250, .agg #[h]) w := by kernel_rfl
theorem as_elemP (w : World) : (ReflectliteType.method ReflectliteType.elem #[.agg #[.pointer (some ⟨10, 147, none⟩)]]).run Tryz.prog w = .ok (.iface 208 (.agg #[.pointer (some ⟨10, 64, none⟩)])) w := by kernel_rfl
theorem as_implementsE (w : World) : (ReflectliteType.relation "Implements" ReflectliteType.implements_ #[.agg #[.pointer (some ⟨10, 64, none⟩)], .iface 208 (.agg #[.pointer (some ⟨10, 28, none⟩)])]).run Tryz.prog w = .ok (.bool true) w := by kernel_rfl
theorem as_typeOfE (v : Value) (w : World) : (ReflectliteType.typeOf #[.iface 64 v]).run Tryz.prog w = .ok (.iface 208 (.agg #[.pointer (some ⟨10, 64, none⟩)])) w := by kernel_rfl
theorem as_assignableE (w : World) : (ReflectliteType.relation "AssignableTo" ReflectliteType.assignableTo #[.agg #[.pointer (some ⟨10, 64, none⟩)], .iface 208 (.agg #[.pointer (some ⟨10, 64, none⟩)])]).run Tryz.prog w = .ok (.bool true) w := by kernel_rfl
theorem as_valueOfE (n : Int) (w : World) : (ReflectliteValue.unpack (.iface 64 (.int .i64 n))).run Tryz.prog w
    = .ok (.agg #[.pointer (some ⟨10, 64, none⟩), .pointer (some ⟨w.heap.size, 0, none⟩), .int .u64 130]) (w.alloc (.cells #[.int .i64 n] 64)) := by kernel_rfl
theorem as_elemOfP (w : World) : (Rtype.elem? 147).run Tryz.prog w = .ok (some 64) w := by kernel_rfl
theorem as_mkE (p : Addr) (w : World) : (ReflectliteValue.mk 64 p ReflectliteValue.flagAddr).run Tryz.prog w = .ok (.agg #[.pointer (some ⟨10, 64, none⟩), .pointer (some p), .int .u64 386]) w := by kernel_rfl
theorem as_elemVP (a p : Addr) (W : World) (ha : W.cell? a = some (.pointer (some p))) :
    (ReflectliteValue.method (ReflectliteValue.valueError "reflectlite.Value.Elem" 0) ReflectliteValue.elem #[.agg #[.pointer (some ⟨10, 147, none⟩), .pointer (some a), .int .u64 150]]).run Tryz.prog W
      = .ok (.agg #[.pointer (some ⟨10, 64, none⟩), .pointer (some p), .int .u64 386]) W := by
  rw [as_rlm]
  simp only [Sem.run_bind, as_partsP, Result.andThen]
  simp [ReflectliteValue.elem, loadVar, isAgg, underlying, Tryz.underlying147, ha, Result.andThen, as_elemOfP, as_mkE]
theorem as_rls (v x : Value) : ∃ (s1 s2 s3 s4 s5 : String), ReflectliteValue.set #[v, x] = (do
    let (some (dst, a, fl), some (src, b, _)) := (← ReflectliteValue.parts v, ← ReflectliteValue.parts x)
      | unsupported (.noEntry s1)
    if fl / ReflectliteValue.flagAddr % 2 == 0 then unsupported (.noEntry s2)
    let val ← loadVar src b
    if ← Rtype.directlyAssignable dst src then storeVar dst a val
    else if ← Rtype.implements dst src then
      if (← Rtype.kind src) == 20 then
        match val with
        | .nilIface => unsupported (.noEntry s3)
        | _ => storeVar dst a val
      else storeVar dst a (.iface src val)
    else panicString (s4 ++ (← Rtype.spelt src) ++ s5 ++ (← Rtype.spelt dst))
    pure (.tuple #[])) := ⟨_, _, _, _, _, rfl⟩
theorem as_partsEa (a : Addr) (w : World) : (ReflectliteValue.parts (.agg #[.pointer (some ⟨10, 64, none⟩), .pointer (some a), .int .u64 386])).run Tryz.prog w = .ok (some (64, a, 386)) w := by kernel_rfl
theorem as_partsE (a : Addr) (w : World) : (ReflectliteValue.parts (.agg #[.pointer (some ⟨10, 64, none⟩), .pointer (some a), .int .u64 130])).run Tryz.prog w = .ok (some (64, a, 130)) w := by kernel_rfl
theorem as_directE (w : World) : (Rtype.directlyAssignable 64 64).run Tryz.prog w = .ok true w := by kernel_rfl
theorem as_setE (ta b : Addr) (n : Int) (old : Value) (W : World) (hb : W.cell? b = some (.int .i64 n)) (ht : W.cell? ta = some old) (hf : W.frozen? ta = false) :
    (ReflectliteValue.set #[.agg #[.pointer (some ⟨10, 64, none⟩), .pointer (some ta), .int .u64 386], .agg #[.pointer (some ⟨10, 64, none⟩), .pointer (some b), .int .u64 130]]).run Tryz.prog W
      = .ok (.tuple #[]) (W.setCell ta (.int .i64 n)) := by
  obtain ⟨s1, s2, s3, s4, s5, he⟩ := as_rls (.agg #[.pointer (some ⟨10, 64, none⟩), .pointer (some ta), .int .u64 386]) (.agg #[.pointer (some ⟨10, 64, none⟩), .pointer (some b), .int .u64 130])
  rw [he]
  simp only [Sem.run_bind, as_partsEa, as_partsE, Result.andThen]
  simp [ReflectliteValue.flagAddr, loadVar, isAgg, underlying, Tryz.underlying64, hb, Result.andThen, as_directE, storeVar, Value.cells, storeCells, Addr.add]
  rw [run_store Tryz.prog W ta _ _ (by rfl)]
  simp [ht, hf]

/-- errors.errorType holds its handle -/
def ErrT (w : World) : Prop := w.cell? ⟨0, 0, none⟩ = some (.iface 208 (.agg #[.pointer (some ⟨10, 28, none⟩)]))
theorem ErrT.lt {w : World} (h : ErrT w) : 0 < w.heap.size := World.block_lt_of_cell? w ⟨0, 0, none⟩ h
theorem ErrT.below {w w' : World} {B : Nat} (h : ErrT w) (hb : Below B w w') (hB : 0 < B) : ErrT w' := (hb.cell (p := ⟨0, 0, none⟩) hB).trans h
theorem ErrT.size {w w' : World} (h : ErrT w) (hb : Below w.heap.size w w') : ErrT w' := h.below hb h.lt

set_option maxHeartbeats 4000000 in
set_option maxRecDepth 100000 in
theorem as_hit (n : Int) (tb : Nat) (old : Value) (w : World) (hg : ErrT w) (ht0 : w.cell? ⟨tb, 0, none⟩ = some old) (hf0 : w.frozen? ⟨tb, 0, none⟩ = false) :
    Calls Tryz.prog 63 #[.iface 64 (.int .i64 n), .iface 147 (.pointer (some ⟨tb, 0, none⟩))] w fun ev w' => ev = .returned (.bool true) ∧
      w' = ((((w.alloc (.cells #[.pointer (some ⟨tb, 0, none⟩)] 147)).alloc (.cells #[.pointer (some ⟨10, 147, none⟩), .pointer (some ⟨w.heap.size, 0, none⟩), .int .u64 150] 178)).alloc (.cells #[.pointer (some ⟨10, 147, none⟩), .pointer (some ⟨w.heap.size, 0, none⟩), .int .u64 150] 178)).alloc (.cells #[.int .i64 n] 64)).setCell ⟨tb, 0, none⟩ (.int .i64 n) := by
  have h6 := @run_callFunc_extern Tryz.prog 98 _ (fun args => ReflectliteValue.unpack (args.getD 0 (.tuple #[]))) Tryz.func98 (by kernel_rfl) (by kernel_rfl) (by kernel_rfl) (by kernel_rfl)
  have h7 := @run_callFunc_extern Tryz.prog 99 _ (ReflectliteValue.methodAny (ReflectliteValue.valueError "reflectlite.Value.Type" 0) (fun t _ _ _ => ReflectliteType.toType t)) Tryz.func99 (by kernel_rfl) (by kernel_rfl) (by kernel_rfl) (by kernel_rfl)
  have h8 := @run_callFunc_extern Tryz.prog 100 _ (ReflectliteValue.method (ReflectliteValue.valueError "reflectlite.Value.IsNil" 0) ReflectliteValue.isNil) Tryz.func100 (by kernel_rfl) (by kernel_rfl) (by kernel_rfl) (by kernel_rfl)
  have h27 := @run_callFunc_extern Tryz.prog 232 _ (ReflectliteType.abiMethod fun t => do pure (.int .u8 (← Rtype.kind t))) Tryz.func232 (by kernel_rfl) (by kernel_rfl) (by kernel_rfl) (by kernel_rfl)
  have h37 := @run_callFunc_extern Tryz.prog 252 _ (ReflectliteType.method ReflectliteType.elem) Tryz.func252 (by kernel_rfl) (by kernel_rfl) (by kernel_rfl) (by kernel_rfl)
  have h38 := @run_callFunc_extern Tryz.prog 253 _ (ReflectliteType.relation "Implements" ReflectliteType.implements_) Tryz.func253 (by kernel_rfl) (by kernel_rfl) (by kernel_rfl) (by kernel_rfl)
  have h10 := @run_callFunc_extern Tryz.prog 133 _ ReflectliteType.typeOf Tryz.func133 (by kernel_rfl) (by kernel_rfl) (by kernel_rfl) (by kernel_rfl)
  have h35 := @run_callFunc_extern Tryz.prog 250 _ (ReflectliteType.relation "AssignableTo" ReflectliteType.assignableTo) Tryz.func250 (by kernel_rfl) (by kernel_rfl) (by kernel_rfl) (by kernel_rfl)
  have h11 := @run_callFunc_extern Tryz.prog 134 _ (ReflectliteValue.method (ReflectliteValue.valueError "reflectlite.Value.Elem" 0) ReflectliteValue.elem) Tryz.func134 (by kernel_rfl) (by kernel_rfl) (by kernel_rfl) (by kernel_rfl)
  have h12 := @run_callFunc_extern Tryz.prog 135 _ ReflectliteValue.set Tryz.func135 (by kernel_rfl) (by kernel_rfl) (by kernel_rfl) (by kernel_rfl)
  have tO := as_typeOfE
  have mA := as_methodAssignableTo
  have a25 := as_assignableE
  have v25 := as_valueOfE
  have f6 := as_valueOfP
  have f7 := as_typeP
  have mK := as_methodKind
  have mE := as_methodElem
  have mI := as_methodImplements
  have k27 := as_kindP
  have k25 := as_kindE
  have e27 := as_elemP
  have i25 := as_implementsE
  have n8 := as_isNilP ⟨w.heap.size, 0, none⟩ ⟨tb, 0, none⟩ ((w.alloc (.cells #[.pointer (some ⟨tb, 0, none⟩)] 147)).alloc (.cells #[.pointer (some ⟨10, 147, none⟩), .pointer (some ⟨w.heap.size, 0, none⟩), .int .u64 150] 178)) (by simp)
  have hlt := hg.lt
  have hg2 : ((w.alloc (.cells #[.pointer (some ⟨tb, 0, none⟩)] 147)).alloc (.cells #[.pointer (some ⟨10, 147, none⟩), .pointer (some ⟨w.heap.size, 0, none⟩), .int .u64 150] 178)).cell? ⟨0, 0, none⟩ = some (.iface 208 (.agg #[.pointer (some ⟨10, 28, none⟩)])) := by
    rw [cell_alloc _ _ _ _ (by simp <;> omega), cell_alloc _ _ _ _ hlt]; exact hg
  have htl : tb < w.heap.size := World.block_lt_of_cell? w ⟨tb, 0, none⟩ ht0
  have el := as_elemVP ⟨w.heap.size, 0, none⟩ ⟨tb, 0, none⟩ (((w.alloc (.cells #[.pointer (some ⟨tb, 0, none⟩)] 147)).alloc (.cells #[.pointer (some ⟨10, 147, none⟩), .pointer (some ⟨w.heap.size, 0, none⟩), .int .u64 150] 178)).alloc (.cells #[.pointer (some ⟨10, 147, none⟩), .pointer (some ⟨w.heap.size, 0, none⟩), .int .u64 150] 178)) (by rw [cell_alloc _ _ _ _ (by simp; omega)]; simp)
  have st := as_setE ⟨tb, 0, none⟩ ⟨w.heap.size + 1 + 1 + 1, 0, none⟩ n old ((((w.alloc (.cells #[.pointer (some ⟨tb, 0, none⟩)] 147)).alloc (.cells #[.pointer (some ⟨10, 147, none⟩), .pointer (some ⟨w.heap.size, 0, none⟩), .int .u64 150] 178)).alloc (.cells #[.pointer (some ⟨10, 147, none⟩), .pointer (some ⟨w.heap.size, 0, none⟩), .int .u64 150] 178)).alloc (.cells #[.int .i64 n] 64))
    (by rw [World.cell?_alloc_at (hn := by simp)]; rfl)
    (by rw [cell_alloc _ _ _ _ (by simp; omega), cell_alloc _ _ _ _ (by simp; omega), cell_alloc _ _ _ _ (by simp; omega), cell_alloc _ _ _ _ htl]; exact ht0)
    (by rw [frozen_alloc _ _ _ _ (by simp; omega), frozen_alloc _ _ _ _ (by simp; omega), frozen_alloc _ _ _ _ (by simp; omega), frozen_alloc _ _ _ _ htl]; exact hf0)
  unfold ErrT at hg
  go_enter Tryz.func63, Tryz.ntmps63
  go_wp2
  refine wp_loop_rounds 1 ?_
  rw [rounds_succ]
  go_wp2
  go_ret
  exact ⟨rfl, rfl⟩

set_option maxRecDepth 100000 in
theorem told_nil (w : World) : Calls Tryz.prog 34 #[.nilIface] w fun e w' => e = .returned (.int .i64 0) ∧ Below w.heap.size w w' := by
  go_enter Tryz.func34, Tryz.ntmps34
  go_wp2
  go_ret
  exact ⟨rfl, Below.refl _ _⟩

set_option maxRecDepth 100000 in
theorem told_err (n : Int) (w : World) (hg : ErrT w) : Calls Tryz.prog 34 #[.iface 64 (.int .i64 n)] w fun e w' => e = .returned (.int .i64 n) ∧ Below w.heap.size w w' := by
  have hA : Below w.heap.size w (w.alloc (.cells #[.int .i64 0] 64)) := (Below.refl _ _).alloc (Nat.le_refl _) _
  have hgA := hg.size hA
  have htA : (w.alloc (.cells #[.int .i64 0] 64)).cell? ⟨w.heap.size, 0, none⟩ = some (.int .i64 0) := by simp
  have hfA : (w.alloc (.cells #[.int .i64 0] 64)).frozen? ⟨w.heap.size, 0, none⟩ = false := by simp
  have hh := as_hit n w.heap.size _ _ hgA htA hfA
  have Hh := Lib.hid hh
  clear hh htA hfA hgA
  go_enter Tryz.func34, Tryz.ntmps34
  go_wp2_with fail
  refine Hh.out.mono ?_
  rintro e w' ⟨rfl, rfl⟩
  go_wp2
  go_ret
  exact ⟨rfl, (((((Below.refl _ _).alloc (Nat.le_refl _) _).alloc (by simp) _).alloc (by simp; omega) _).alloc (by simp; omega) _).alloc (by simp; omega) _⟩

theorem told_walk (k : Nat) (w : World) (hg : ErrT w) : Calls Tryz.prog 34 #[errV k] w fun e w' => e = .returned (.int .i64 k) ∧ Below w.heap.size w w' := by
  cases k with
  | zero => exact told_nil w
  | succ k => exact told_err _ w hg

set_option maxRecDepth 100000 in
/-- Error of package amanuensissame -/
theorem error_yes (k : Nat) (n : Int) (w : World) (hg : ErrT w) (hk : (k : Int) = n) : Calls Tryz.prog 11 #[errV k, .int .i64 n] w fun e w' => e = .returned (.bool true) ∧ Below w.heap.size w w' := by
  subst hk
  go_enter Tryz.func11, Tryz.ntmps11
  go_wp2_with fail
  refine (told_walk k _ hg).mono ?_
  rintro e w1 ⟨rfl, hb1⟩
  go_wp2
  go_ret
  exact ⟨by simp, hb1⟩
set_option maxRecDepth 100000 in
theorem error_no (k : Nat) (n : Int) (w : World) (hg : ErrT w) (hk : (k : Int) ≠ n) : Calls Tryz.prog 11 #[errV k, .int .i64 n] w fun e w' => e = .returned (.bool false) ∧ Below w.heap.size w w' := by
  have h : ((k : Int) == n) = false := by simpa using hk
  clear hk
  go_enter Tryz.func11, Tryz.ntmps11
  go_wp2_with fail
  refine (told_walk k _ hg).mono ?_
  rintro e w1 ⟨rfl, hb1⟩
  go_wp2
  go_ret
  exact ⟨by simp, hb1⟩
end Go.Proofs.YtgpjcjnimheglaaGreatDoor
