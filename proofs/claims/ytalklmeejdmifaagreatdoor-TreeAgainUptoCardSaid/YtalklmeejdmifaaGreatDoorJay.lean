/-
  JOINED of the texts YJ YK ErrV ToldQ ZP OpenS OpenT LaidW LaidF LaidL LaidA
-/
import Derived.Test.YtalklmeejdmifaaGreatDoorJax
import Derived.LaidEql
import Derived.Stop.Asserts
import Derived.RowKitTokens
import Derived.ProofKit
import Derived.OpenShut
import Derived.JoinedCond
import Derived.Deep.Slices
import Derived.Deep.Fields
import Derived.ChangeSame
import Derived.SliceStrings
import Derived.PinnedBridge
import Derived.Lib.LaidU8
import Derived.Lib.LaidIn
import Derived.LaidLaws
import Derived.Stop.Joined
import Derived.Stop.LaidErr
import Derived.Shelf.Vars
import Derived.LaidHandle
namespace Go.Proofs.YtalklmeejdmifaaGreatDoor
open Go.RowKit
theorem ntC_get : ∀ (l : List Tr.Nt) (k : Nat) (h : k < l.length), (ntC l)[k * 3]? = some (.int .i64 l[k].1) ∧ (ntC l)[k * 3 + 1]? = some (.int .i64 l[k].2.1) ∧ (ntC l)[k * 3 + 2]? = some (.int .i64 (l[k].2.2 : Int))
 | [], _, h => absurd h (by simp)
 | n :: l, 0, _ => ⟨rfl, rfl, rfl⟩
 | n :: l, k + 1, h => by
  have ih := ntC_get l k (by simpa using h)
  rw [Nat.succ_mul]
  simpa [ntC] using ih
theorem Rd.nt {w : World} {B : Nat} {A : Option Addr} {l : List Tr.Nt} {k : Nat} (h : Rd w B 3 A l.length (ntC l)) (hk : k < l.length) : ∃ b o, A = some ⟨b, o, none⟩ ∧ b < B ∧ w.cell? ⟨b, o + k * 3, none⟩ = some (.int .i64 l[k].1) ∧ w.cell? ⟨b, o + k * 3 + 1, none⟩ = some (.int .i64 l[k].2.1) ∧ w.cell? ⟨b, o + k * 3 + 2, none⟩ = some (.int .i64 (l[k].2.2 : Int)) := by
 obtain ⟨b, o, e, hb, hc⟩ := h.2 (by omega)
 obtain ⟨h0, h1, h2⟩ := ntC_get l k hk
 have c1 := hc _ _ h1
 have c2 := hc _ _ h2
 rw [← Nat.add_assoc] at c1 c2
 exact ⟨b, o, e, hb, hc _ _ h0, c1, c2⟩
theorem Tr.kids_q {s : Bs} {T : List Tk} (hS : Tr.Side s T) : ∀ (f i : Nat), i ≤ T.length → ∀ k ∈ (Tr.kidsP s T f i).1, Tr.wfP k.part ∧ Tr.okP k.base k.part k.base ∧ k.base + Tr.wideP k.part ≤ s.length
 | 0, i, _, k, hk => absurd hk (by unfold Tr.kidsP; simp)
 | f + 1, i, hi, k, hk => by
  rw [Tr.kids_succ] at hk
  split at hk
  ·rename_i hn
   obtain ⟨a1, a2, a3, a4⟩ := Tr.oneP_text ((Tr.kid_fine hS).at_ hi)
   rcases List.mem_cons.1 hk with rfl | hk
   ·refine ⟨a2, Tr.kid_okd hS i hi hn, ?_⟩
    have h1 := Tr.wide_text (Tr.kidP s T i).1
    rw [a1, Tr.sl_len hS.good a3] at h1
    have h2 := hS.good.abs_le (Tr.kidP s T i).2
    have h3 := hS.good.up i _ a3
    show Tr.absP s T i + Tr.wideP (Tr.kidP s T i).1 ≤ s.length
    omega
   ·exact Tr.kids_q hS f (Tr.kidP s T i).2 a4 k hk
  ·simp at hk
theorem Tr.tail_q {s : Bs} {T : List Tk} (hS : Tr.Side s T) (i : Nat) (hi : i ≤ T.length) : ∀ p ∈ Tr.tailP s T i, Tr.wfP p ∧ ∃ a, Tr.okP 0 p a ∧ a + Tr.wideP p ≤ s.length := by
 intro p hp
 have h := Tr.leaves_ok 0 hS (T.length - i) i (by omega) (Nat.zero_le _)
 have e : (T.drop i).take (T.length - i) = T.drop i := List.take_of_length_le (by rw [List.length_drop]; exact Nat.le_refl _)
 rw [e] at h
 obtain ⟨f1, f2⟩ := Tr.tail_fine hS i hi
 obtain ⟨a, h1, h2⟩ := Tr.oks_mem _ _ h p hp
 refine ⟨wfs_mem _ f2 p hp, a, h1, ?_⟩
 have h3 := Tr.wides_text (Tr.tailP s T i)
 rw [f1, Tr.sl_len hS.good hi] at h3
 have h4 := hS.good.abs_le T.length
 have h5 := hS.good.up i _ hi
 have h6 : Tr.tailP s T i = (T.drop i).map (Tr.leafP s 0) := rfl
 rw [h6] at h3
 omega
theorem Tr.notes_facts {s : Bs} {T : List Tk} (hS : Tr.Side s T) (hs : s.length ≤ 1048576) (hT : T.length ≤ 1048576) :
  (∀ k ∈ (Tr.kidsP s T (T.length + 1) 0).1, NtQ k.base k.part) ∧ (∀ p ∈ Tr.tailP s T (Tr.kidsP s T (T.length + 1) 0).2, NtQ 0 p) ∧
   Tr.tailN (Tr.tailP s T (Tr.kidsP s T (T.length + 1) 0).2) (Tr.kidsN (Tr.kidsP s T (T.length + 1) 0).1 []) = Tr.rnotesP (.branch 2 0 (Tr.allP s T)) 0 ∧ (Tr.rnotesP (.branch 2 0 (Tr.allP s T)) 0).length ≤ 100000000 := by
 obtain ⟨c1, c2, c3, c4, c5⟩ := Tr.kids_fine hS (T.length + 1) 0 (Nat.zero_le _)
 refine ⟨fun k hk => ?_, fun p hp => ?_, Tr.all_notes hS, ?_⟩
 ·obtain ⟨h1, h2, h3⟩ := Tr.kids_q hS _ 0 (Nat.zero_le _) k hk
  exact ⟨h1, _, h2, by omega⟩
 ·obtain ⟨h1, a, h2, h3⟩ := Tr.tail_q hS _ c4 p hp
  exact ⟨h1, a, h2, by omega⟩
 ·have h1 := Tr.rnotes_len (.branch 2 0 (Tr.allP s T)) 0
  have h2 := Tr.all_ct s T
  omega
end Go.Proofs.YtalklmeejdmifaaGreatDoor
namespace Go.Proofs.YtalklmeejdmifaaGreatDoor
def errV : Nat → Value
 | 0 => .nilIface
 | k => .iface 48 (.int .i64 k)
end Go.Proofs.YtalklmeejdmifaaGreatDoor
namespace Go.Proofs.YtalklmeejdmifaaGreatDoor
open Go.RowKit Go.Extern.Stop Go.Stop Go.Extern
theorem as_valueOfP (t : Addr) (w : World) : (ReflectliteValue.unpack (.iface 193 (.pointer (some t)))).run Tryz.prog w
  = .ok (.agg #[.pointer (some ⟨10, 193, none⟩), .pointer (some ⟨w.heap.size, 0, none⟩), .int .u64 150]) (w.alloc (.cells #[.pointer (some t)] 193)) := by kernel_rfl
theorem as_typeP (a : Addr) (w : World) : (ReflectliteValue.methodAny (ReflectliteValue.valueError "reflectlite.Value.Type" 0) (fun t _ _ _ => ReflectliteType.toType t) #[.agg #[.pointer (some ⟨10, 193, none⟩), .pointer (some a), .int .u64 150]]).run Tryz.prog w
  = .ok (.iface 264 (.agg #[.pointer (some ⟨10, 193, none⟩)])) w := by kernel_rfl
theorem as_methodKind (h : Value) (w : World) : (Go.method 517 264 (.agg #[h]) "Kind").run Tryz.prog w = .ok (300, h) w := by kernel_rfl
theorem as_kindP (w : World) : ((ReflectliteType.abiMethod fun t => (fun a : Nat => Value.int IntKind.u8 (a : Int)) <$> Rtype.kind t) #[.pointer (some ⟨10, 193, none⟩)]).run Tryz.prog w = .ok (.int .u8 22) w := by kernel_rfl
theorem as_kindE (w : World) : ((ReflectliteType.abiMethod fun t => (fun a : Nat => Value.int IntKind.u8 (a : Int)) <$> Rtype.kind t) #[.pointer (some ⟨10, 48, none⟩)]).run Tryz.prog w = .ok (.int .u8 2) w := by kernel_rfl
theorem as_rlm (z : Sem Value) (f : TypeId → Addr → Nat → Nat → Sem Value) (v : Value) :
  ReflectliteValue.method z f #[v] = (do match ← ReflectliteValue.parts v with | none => z | some (t, a, fl) => f t a fl (fl % 32)) := rfl
theorem as_partsP (a : Addr) (w : World) : (ReflectliteValue.parts (.agg #[.pointer (some ⟨10, 193, none⟩), .pointer (some a), .int .u64 150])).run Tryz.prog w = .ok (some (193, a, 150)) w := by kernel_rfl
theorem as_isNilP (a p : Addr) (W : World) (ha : W.cell? a = some (.pointer (some p))) :
  (ReflectliteValue.method (ReflectliteValue.valueError "reflectlite.Value.IsNil" 0) ReflectliteValue.isNil #[.agg #[.pointer (some ⟨10, 193, none⟩), .pointer (some a), .int .u64 150]]).run Tryz.prog W = .ok (.bool false) W := by
 rw [as_rlm]
 simp only [Sem.run_bind, as_partsP, Result.andThen]
 simp [ReflectliteValue.isNil, loadVar, isAgg, underlying, Tryz.underlying193, ha, Result.andThen]
theorem as_methodElem (h : Value) (w : World) : (Go.method 517 264 (.agg #[h]) "Elem").run Tryz.prog w = .ok (323, .agg #[h]) w := by kernel_rfl
theorem as_methodImplements (h : Value) (w : World) : (Go.method 517 264 (.agg #[h]) "Implements").run Tryz.prog w = .ok (324, .agg #[h]) w := by kernel_rfl
theorem as_methodAssignableTo (h : Value) (w : World) : (Go.method 517 264 (.agg #[h]) "AssignableTo").run Tryz.prog w = .ok (321, .agg #[h]) w := by kernel_rfl
theorem as_elemP (w : World) : (ReflectliteType.method ReflectliteType.elem #[.agg #[.pointer (some ⟨10, 193, none⟩)]]).run Tryz.prog w = .ok (.iface 264 (.agg #[.pointer (some ⟨10, 48, none⟩)])) w := by kernel_rfl
theorem as_implementsE (w : World) : (ReflectliteType.relation "Implements" ReflectliteType.implements_ #[.agg #[.pointer (some ⟨10, 48, none⟩)], .iface 264 (.agg #[.pointer (some ⟨10, 42, none⟩)])]).run Tryz.prog w = .ok (.bool true) w := by kernel_rfl
theorem as_typeOfE (v : Value) (w : World) : (ReflectliteType.typeOf #[.iface 48 v]).run Tryz.prog w = .ok (.iface 264 (.agg #[.pointer (some ⟨10, 48, none⟩)])) w := by kernel_rfl
theorem as_assignableE (w : World) : (ReflectliteType.relation "AssignableTo" ReflectliteType.assignableTo #[.agg #[.pointer (some ⟨10, 48, none⟩)], .iface 264 (.agg #[.pointer (some ⟨10, 48, none⟩)])]).run Tryz.prog w = .ok (.bool true) w := by kernel_rfl
theorem as_valueOfE (n : Int) (w : World) : (ReflectliteValue.unpack (.iface 48 (.int .i64 n))).run Tryz.prog w
  = .ok (.agg #[.pointer (some ⟨10, 48, none⟩), .pointer (some ⟨w.heap.size, 0, none⟩), .int .u64 130]) (w.alloc (.cells #[.int .i64 n] 48)) := by kernel_rfl
theorem as_elemOfP (w : World) : (Rtype.elem? 193).run Tryz.prog w = .ok (some 48) w := by kernel_rfl
theorem as_mkE (p : Addr) (w : World) : (ReflectliteValue.mk 48 p ReflectliteValue.flagAddr).run Tryz.prog w = .ok (.agg #[.pointer (some ⟨10, 48, none⟩), .pointer (some p), .int .u64 386]) w := by kernel_rfl
theorem as_elemVP (a p : Addr) (W : World) (ha : W.cell? a = some (.pointer (some p))) :
  (ReflectliteValue.method (ReflectliteValue.valueError "reflectlite.Value.Elem" 0) ReflectliteValue.elem #[.agg #[.pointer (some ⟨10, 193, none⟩), .pointer (some a), .int .u64 150]]).run Tryz.prog W
   = .ok (.agg #[.pointer (some ⟨10, 48, none⟩), .pointer (some p), .int .u64 386]) W := by
 rw [as_rlm]
 simp only [Sem.run_bind, as_partsP, Result.andThen]
 simp [ReflectliteValue.elem, loadVar, isAgg, underlying, Tryz.underlying193, ha, Result.andThen, as_elemOfP, as_mkE]
theorem as_rls (v x : Value) : ∃ (s1 s2 s3 s4 s5 : String), ReflectliteValue.set #[v, x] = (do
  let (some (dst, a, fl), some (src, b, _)) := (← ReflectliteValue.parts v, ← ReflectliteValue.parts x)
   | unsupported (.noEntry s1)
  if fl / ReflectliteValue.flagAddr % 2 == 0 then unsupported (.noEntry s2)
  let val ← loadVar src b
  if ← Rtype.directlyAssignable dst src then storeVar dst a val
  else if ← Rtype.implements dst src then
   if (← Rtype.kind src) == 20 then
    match val with
    | .nilIface => unsupported (.noEntry s3)
    | _ => storeVar dst a val
   else storeVar dst a (.iface src val)
  else panicString (s4 ++ (← Rtype.spelt src) ++ s5 ++ (← Rtype.spelt dst))
  pure (.tuple #[])) := ⟨_, _, _, _, _, rfl⟩
theorem as_partsEa (a : Addr) (w : World) : (ReflectliteValue.parts (.agg #[.pointer (some ⟨10, 48, none⟩), .pointer (some a), .int .u64 386])).run Tryz.prog w = .ok (some (48, a, 386)) w := by kernel_rfl
theorem as_partsE (a : Addr) (w : World) : (ReflectliteValue.parts (.agg #[.pointer (some ⟨10, 48, none⟩), .pointer (some a), .int .u64 130])).run Tryz.prog w = .ok (some (48, a, 130)) w := by kernel_rfl
theorem as_directE (w : World) : (Rtype.directlyAssignable 48 48).run Tryz.prog w = .ok true w := by kernel_rfl
theorem as_setE (ta b : Addr) (n : Int) (old : Value) (W : World) (hb : W.cell? b = some (.int .i64 n)) (ht : W.cell? ta = some old) (hf : W.frozen? ta = false) :
  (ReflectliteValue.set #[.agg #[.pointer (some ⟨10, 48, none⟩), .pointer (some ta), .int .u64 386], .agg #[.pointer (some ⟨10, 48, none⟩), .pointer (some b), .int .u64 130]]).run Tryz.prog W
   = .ok (.tuple #[]) (W.setCell ta (.int .i64 n)) := by
 obtain ⟨s1, s2, s3, s4, s5, he⟩ := as_rls (.agg #[.pointer (some ⟨10, 48, none⟩), .pointer (some ta), .int .u64 386]) (.agg #[.pointer (some ⟨10, 48, none⟩), .pointer (some b), .int .u64 130])
 rw [he]
 simp only [Sem.run_bind, as_partsEa, as_partsE, Result.andThen]
 simp [ReflectliteValue.flagAddr, loadVar, isAgg, underlying, Tryz.underlying48, hb, Result.andThen, as_directE, storeVar, Value.cells, storeCells, Addr.add]
 rw [run_store Tryz.prog W ta _ _ (by rfl)]
 simp [ht, hf]
def ErrT (w : World) : Prop := w.cell? ⟨0, 0, none⟩ = some (.iface 264 (.agg #[.pointer (some ⟨10, 42, none⟩)]))
theorem ErrT.lt {w : World} (h : ErrT w) : 0 < w.heap.size := World.block_lt_of_cell? w ⟨0, 0, none⟩ h
theorem ErrT.below {w w' : World} {B : Nat} (h : ErrT w) (hb : Below B w w') (hB : 0 < B) : ErrT w' := (hb.cell (p := ⟨0, 0, none⟩) hB).trans h
theorem ErrT.size {w w' : World} (h : ErrT w) (hb : Below w.heap.size w w') : ErrT w' := h.below hb h.lt
set_option maxHeartbeats 4000000 in
set_option maxRecDepth 100000 in
theorem as_hit (n : Int) (tb : Nat) (old : Value) (w : World) (hg : ErrT w) (ht0 : w.cell? ⟨tb, 0, none⟩ = some old) (hf0 : w.frozen? ⟨tb, 0, none⟩ = false) :
  Calls Tryz.prog 97 #[.iface 48 (.int .i64 n), .iface 193 (.pointer (some ⟨tb, 0, none⟩))] w fun ev w' => ev = .returned (.bool true) ∧
   w' = ((((w.alloc (.cells #[.pointer (some ⟨tb, 0, none⟩)] 193)).alloc (.cells #[.pointer (some ⟨10, 193, none⟩), .pointer (some ⟨w.heap.size, 0, none⟩), .int .u64 150] 220)).alloc (.cells #[.pointer (some ⟨10, 193, none⟩), .pointer (some ⟨w.heap.size, 0, none⟩), .int .u64 150] 220)).alloc (.cells #[.int .i64 n] 48)).setCell ⟨tb, 0, none⟩ (.int .i64 n) := by
 have h6 := @run_callFunc_extern Tryz.prog 131 _ (fun args => ReflectliteValue.unpack (args.getD 0 (.tuple #[]))) Tryz.func131 (by kernel_rfl) (by kernel_rfl) (by kernel_rfl) (by kernel_rfl)
 have h7 := @run_callFunc_extern Tryz.prog 132 _ (ReflectliteValue.methodAny (ReflectliteValue.valueError "reflectlite.Value.Type" 0) (fun t _ _ _ => ReflectliteType.toType t)) Tryz.func132 (by kernel_rfl) (by kernel_rfl) (by kernel_rfl) (by kernel_rfl)
 have h8 := @run_callFunc_extern Tryz.prog 133 _ (ReflectliteValue.method (ReflectliteValue.valueError "reflectlite.Value.IsNil" 0) ReflectliteValue.isNil) Tryz.func133 (by kernel_rfl) (by kernel_rfl) (by kernel_rfl) (by kernel_rfl)
 have h27 := @run_callFunc_extern Tryz.prog 300 _ (ReflectliteType.abiMethod fun t => do pure (.int .u8 (← Rtype.kind t))) Tryz.func300 (by kernel_rfl) (by kernel_rfl) (by kernel_rfl) (by kernel_rfl)
 have h37 := @run_callFunc_extern Tryz.prog 323 _ (ReflectliteType.method ReflectliteType.elem) Tryz.func323 (by kernel_rfl) (by kernel_rfl) (by kernel_rfl) (by kernel_rfl)
 have h38 := @run_callFunc_extern Tryz.prog 324 _ (ReflectliteType.relation "Implements" ReflectliteType.implements_) Tryz.func324 (by kernel_rfl) (by kernel_rfl) (by kernel_rfl) (by kernel_rfl)
 have h10 := @run_callFunc_extern Tryz.prog 175 _ ReflectliteType.typeOf Tryz.func175 (by kernel_rfl) (by kernel_rfl) (by kernel_rfl) (by kernel_rfl)
 have h35 := @run_callFunc_extern Tryz.prog 321 _ (ReflectliteType.relation "AssignableTo" ReflectliteType.assignableTo) Tryz.func321 (by kernel_rfl) (by kernel_rfl) (by kernel_rfl) (by kernel_rfl)
 have h11 := @run_callFunc_extern Tryz.prog 176 _ (ReflectliteValue.method (ReflectliteValue.valueError "reflectlite.Value.Elem" 0) ReflectliteValue.elem) Tryz.func176 (by kernel_rfl) (by kernel_rfl) (by kernel_rfl) (by kernel_rfl)
 have h12 := @run_callFunc_extern Tryz.prog 177 _ ReflectliteValue.set Tryz.func177 (by kernel_rfl) (by kernel_rfl) (by kernel_rfl) (by kernel_rfl)
 have tO := as_typeOfE
 have mA := as_methodAssignableTo
 have a25 := as_assignableE
 have v25 := as_valueOfE
 have f6 := as_valueOfP
 have f7 := as_typeP
 have mK := as_methodKind
 have mE := as_methodElem
 have mI := as_methodImplements
 have k27 := as_kindP
 have k25 := as_kindE
 have e27 := as_elemP
 have i25 := as_implementsE
 have n8 := as_isNilP ⟨w.heap.size, 0, none⟩ ⟨tb, 0, none⟩ ((w.alloc (.cells #[.pointer (some ⟨tb, 0, none⟩)] 193)).alloc (.cells #[.pointer (some ⟨10, 193, none⟩), .pointer (some ⟨w.heap.size, 0, none⟩), .int .u64 150] 220)) (by simp)
 have hlt := hg.lt
 have hg2 : ((w.alloc (.cells #[.pointer (some ⟨tb, 0, none⟩)] 193)).alloc (.cells #[.pointer (some ⟨10, 193, none⟩), .pointer (some ⟨w.heap.size, 0, none⟩), .int .u64 150] 220)).cell? ⟨0, 0, none⟩ = some (.iface 264 (.agg #[.pointer (some ⟨10, 42, none⟩)])) := by
  rw [cell_alloc _ _ _ _ (by simp <;> omega), cell_alloc _ _ _ _ hlt]; exact hg
 have htl : tb < w.heap.size := World.block_lt_of_cell? w ⟨tb, 0, none⟩ ht0
 have el := as_elemVP ⟨w.heap.size, 0, none⟩ ⟨tb, 0, none⟩ (((w.alloc (.cells #[.pointer (some ⟨tb, 0, none⟩)] 193)).alloc (.cells #[.pointer (some ⟨10, 193, none⟩), .pointer (some ⟨w.heap.size, 0, none⟩), .int .u64 150] 220)).alloc (.cells #[.pointer (some ⟨10, 193, none⟩), .pointer (some ⟨w.heap.size, 0, none⟩), .int .u64 150] 220)) (by rw [cell_alloc _ _ _ _ (by simp; omega)]; simp)
 have st := as_setE ⟨tb, 0, none⟩ ⟨w.heap.size + 1 + 1 + 1, 0, none⟩ n old ((((w.alloc (.cells #[.pointer (some ⟨tb, 0, none⟩)] 193)).alloc (.cells #[.pointer (some ⟨10, 193, none⟩), .pointer (some ⟨w.heap.size, 0, none⟩), .int .u64 150] 220)).alloc (.cells #[.pointer (some ⟨10, 193, none⟩), .pointer (some ⟨w.heap.size, 0, none⟩), .int .u64 150] 220)).alloc (.cells #[.int .i64 n] 48))
  (by rw [World.cell?_alloc_at (hn := by simp)]; rfl)
  (by rw [cell_alloc _ _ _ _ (by simp; omega), cell_alloc _ _ _ _ (by simp; omega), cell_alloc _ _ _ _ (by simp; omega), cell_alloc _ _ _ _ htl]; exact ht0)
  (by rw [frozen_alloc _ _ _ _ (by simp; omega), frozen_alloc _ _ _ _ (by simp; omega), frozen_alloc _ _ _ _ (by simp; omega), frozen_alloc _ _ _ _ htl]; exact hf0)
 unfold ErrT at hg
 go_enter Tryz.func97, Tryz.ntmps97
 go_wp2
 refine wp_loop_rounds 1 ?_
 rw [rounds_succ]
 go_wp2
 go_ret
 exact ⟨rfl, rfl⟩
set_option maxRecDepth 100000 in
theorem told_nil (w : World) : Calls Tryz.prog 56 #[.nilIface] w fun e w' => e = .returned (.int .i64 0) ∧ Below w.heap.size w w' := by
 go_enter Tryz.func56, Tryz.ntmps56
 go_wp2
 go_ret
 exact ⟨rfl, Below.refl _ _⟩
set_option maxRecDepth 100000 in
theorem told_err (n : Int) (w : World) (hg : ErrT w) : Calls Tryz.prog 56 #[.iface 48 (.int .i64 n)] w fun e w' => e = .returned (.int .i64 n) ∧ Below w.heap.size w w' := by
 have hA : Below w.heap.size w (w.alloc (.cells #[.int .i64 0] 48)) := (Below.refl _ _).alloc (Nat.le_refl _) _
 have hgA := hg.size hA
 have htA : (w.alloc (.cells #[.int .i64 0] 48)).cell? ⟨w.heap.size, 0, none⟩ = some (.int .i64 0) := by simp
 have hfA : (w.alloc (.cells #[.int .i64 0] 48)).frozen? ⟨w.heap.size, 0, none⟩ = false := by simp
 have hh := as_hit n w.heap.size _ _ hgA htA hfA
 have Hh := Lib.hid hh
 clear hh htA hfA hgA
 go_enter Tryz.func56, Tryz.ntmps56
 go_wp2_with fail
 refine Hh.out.mono ?_
 rintro e w' ⟨rfl, rfl⟩
 go_wp2
 go_ret
 exact ⟨rfl, (((((Below.refl _ _).alloc (Nat.le_refl _) _).alloc (by simp) _).alloc (by simp; omega) _).alloc (by simp; omega) _).alloc (by simp; omega) _⟩
theorem told_walk (k : Nat) (w : World) (hg : ErrT w) : Calls Tryz.prog 56 #[errV k] w fun e w' => e = .returned (.int .i64 k) ∧ Below w.heap.size w w' := by
 cases k with
 | zero => exact told_nil w
 | succ k => exact told_err _ w hg
set_option maxRecDepth 100000 in
theorem error_yes (k : Nat) (n : Int) (w : World) (hg : ErrT w) (hk : (k : Int) = n) : Calls Tryz.prog 20 #[errV k, .int .i64 n] w fun e w' => e = .returned (.bool true) ∧ Below w.heap.size w w' := by
 subst hk
 go_enter Tryz.func20, Tryz.ntmps20
 go_wp2_with fail
 refine (told_walk k _ hg).mono ?_
 rintro e w1 ⟨rfl, hb1⟩
 go_wp2
 go_ret
 exact ⟨by simp, hb1⟩
end Go.Proofs.YtalklmeejdmifaaGreatDoor
namespace Go.Proofs.YtalklmeejdmifaaGreatDoor
open Go.RowKit
theorem TreeIs.below {w w' : World} {F : Nat → Prop} {gt d : Nat} {A : Option Addr} {c : Nat} {T : List Tk} {ks : List Tr.Kd} {ts : List Tr.PT} (h : TreeIs w F gt d A c T ks ts) (hb : Below w.heap.size w w') : TreeIs w' F gt d A c T ks ts := by
 obtain ⟨Av, cv, At, ct, vs, us, h1, h2, h3, h4, h5, h6, h7⟩ := h.ex
 exact ⟨Av, cv, At, ct, vs, us, h1.below hb h1.lt, h2, h3, h4.keep hb.size fun x hx hl => ⟨hb.block x hl, hx⟩, KdsF.keep hb.size (fun x hx hl => ⟨hb.block x hl, hx⟩) _ _ h5, h6.keep hb.size fun x hx hl => ⟨hb.block x hl, hx⟩, PtsF.keep hb.size (fun x hx hl => ⟨hb.block x hl, hx⟩) _ _ h7⟩
theorem TreeOf.below {w w' : World} {F : Nat → Prop} {gt : Nat} {s : Bs} {T : List Tk} {ks : List Tr.Kd} {ts : List Tr.PT} (h : TreeOf w F gt s T ks ts) (hb : Below w.heap.size w w') : TreeOf w' F gt s T ks ts := by
 obtain ⟨d, A, c, h1, h2, h3, h4, h5, h6⟩ := h.ex
 exact ⟨⟨d, A, c, h1.below hb, h2.below hb, h3, h4.keep hb.size fun x hx hl => ⟨hb.block x hl, hx⟩, h5, h6⟩, h.at_⟩
def remS (s1 s2 : Bs) : Nat → Nat
 | 0 => s1.length + s2.length
 | 1 => s2.length
 | _ => 0
theorem sp_rem {f1 t1 f2 t2 : Int} {s1 s2 : Bs} {wr : World} {gp : Nat} {k : Nat} (hB : Blk wr gp 39 #[.int .i64 f1, .int .i64 t1, .string ⟨s1.toArray⟩, .int .i64 f2, .int .i64 t2, .string ⟨s2.toArray⟩]) (hk : k < 2) :
  ∃ (f t : Int) (s : Bs), wr.cell? ⟨gp, k * 3, none⟩ = some (.int .i64 f) ∧ wr.cell? ⟨gp, k * 3 + 1, none⟩ = some (.int .i64 t) ∧ wr.cell? ⟨gp, k * 3 + 2, none⟩ = some (.string ⟨s.toArray⟩) ∧ s.length + remS s1 s2 (k + 1) = remS s1 s2 k := by
 match k, hk with
 | 0, _ => exact ⟨f1, t1, s1, by rw [hB.cell]; rfl, by rw [hB.cell]; rfl, by rw [hB.cell]; rfl, rfl⟩
 | 1, _ => exact ⟨f2, t2, s2, by rw [hB.cell]; rfl, by rw [hB.cell]; rfl, by rw [hB.cell]; rfl, rfl⟩
theorem tree_facts (s : Bs) (hsl : s.length ≤ 1048576) :
  (Tr.ksP s (Lx.tokR 0 s)).length ≤ 100000000 ∧ (Tr.tailP s (Lx.tokR 0 s) (Tr.kidsP s (Lx.tokR 0 s) ((Lx.tokR 0 s).length + 1) 0).2).length ≤ 100000000 ∧
   Tr.wfsP ((Tr.ksP s (Lx.tokR 0 s)).map (·.part) ++ Tr.tailP s (Lx.tokR 0 s) (Tr.kidsP s (Lx.tokR 0 s) ((Lx.tokR 0 s).length + 1) 0).2) ∧ Tr.wfP (.branch 2 0 ((Tr.ksP s (Lx.tokR 0 s)).map (·.part) ++ Tr.tailP s (Lx.tokR 0 s) (Tr.kidsP s (Lx.tokR 0 s) ((Lx.tokR 0 s).length + 1) 0).2)) ∧
   (∀ k ∈ Tr.ksP s (Lx.tokR 0 s), NtQ k.base k.part) ∧ (∀ p ∈ Tr.tailP s (Lx.tokR 0 s) (Tr.kidsP s (Lx.tokR 0 s) ((Lx.tokR 0 s).length + 1) 0).2, NtQ 0 p) ∧
   (Tr.tailN (Tr.tailP s (Lx.tokR 0 s) (Tr.kidsP s (Lx.tokR 0 s) ((Lx.tokR 0 s).length + 1) 0).2) (Tr.kidsN (Tr.ksP s (Lx.tokR 0 s)) [])).length ≤ 100000000 := by
 have hTl := Lx.tokR_length 0 s
 obtain ⟨hS, -⟩ := Lx.tok_side s (by omega) hTl
 have hall := Tr.all_fine hS
 have h3 := hall.2.2
 obtain ⟨q1, q2, q3, q4⟩ := Tr.notes_facts hS hsl (by omega)
 have h4 : Tr.allP s (Lx.tokR 0 s) = (Tr.ksP s (Lx.tokR 0 s)).map (·.part) ++ Tr.tailP s (Lx.tokR 0 s) (Tr.kidsP s (Lx.tokR 0 s) ((Lx.tokR 0 s).length + 1) 0).2 := rfl
 have h5 := hall.2.1
 rw [h4] at h3 h5
 have h6 := h3
 rw [List.length_append, List.length_map] at h6
 refine ⟨by omega, by omega, h5, by unfold Tr.wfP; exact ⟨Nat.le_refl _, by omega, h5⟩, q1, q2, ?_⟩
 have h7 := congrArg List.length q3
 have h8 : (Tr.tailN (Tr.tailP s (Lx.tokR 0 s) (Tr.kidsP s (Lx.tokR 0 s) ((Lx.tokR 0 s).length + 1) 0).2) (Tr.kidsN (Tr.ksP s (Lx.tokR 0 s)) [])).length = _ := h7
 rw [h8]
 exact q4
set_option maxHeartbeats 16000000 in
set_option maxRecDepth 100000 in
theorem treeAgain_walk (s0 : Bs) (f1 t1 f2 t2 : Int) (s1 s2 : Bs) (m : Int) (w : World) (hM : MaxL w m) (hT : T8 w) (hW : WordsIs w) (hE : ErrT w) (hlen0 : s0.length + remS s1 s2 0 ≤ 1048576) :
  Calls Tryz.prog 5 #[.string ⟨s0.toArray⟩, .agg #[.int .i64 f1, .int .i64 t1, .string ⟨s1.toArray⟩], .agg #[.int .i64 f2, .int .i64 t2, .string ⟨s2.toArray⟩]] w fun e w' => e = .returned (.bool true) ∧ Below w.heap.size w w' := by
 have hbA : Below w.heap.size w ((w.alloc (.cells #[.int .i64 f1, .int .i64 t1, .string ⟨s1.toArray⟩] 39)).alloc (.cells #[.int .i64 f2, .int .i64 t2, .string ⟨s2.toArray⟩] 39)) := ((Below.refl _ _).alloc (Nat.le_refl _) _).alloc (by simp) _
 have hBa : Blk ((w.alloc (.cells #[.int .i64 f1, .int .i64 t1, .string ⟨s1.toArray⟩] 39)).alloc (.cells #[.int .i64 f2, .int .i64 t2, .string ⟨s2.toArray⟩] 39)) w.heap.size 39 #[.int .i64 f1, .int .i64 t1, .string ⟨s1.toArray⟩] := (Blk.new w _ _).alloc _
 have hBb : Blk ((w.alloc (.cells #[.int .i64 f1, .int .i64 t1, .string ⟨s1.toArray⟩] 39)).alloc (.cells #[.int .i64 f2, .int .i64 t2, .string ⟨s2.toArray⟩] 39)) (w.heap.size + 1) 39 #[.int .i64 f2, .int .i64 t2, .string ⟨s2.toArray⟩] := by
  have := Blk.new (w.alloc (.cells #[.int .i64 f1, .int .i64 t1, .string ⟨s1.toArray⟩] 39)) 39 #[.int .i64 f2, .int .i64 t2, .string ⟨s2.toArray⟩]
  simpa using this
 have hnew := tnew_walk s0 m _ (hM.below hbA hM.lt) (hT.below hbA) (hW.below hbA) (by omega)
 go_enter Tryz.func5, Tryz.ntmps5
 go_wp2_with fail
 refine hnew.mono ?_
 clear hnew
 rintro e w1 ⟨g, rfl, hd, hb1⟩
 have hbw1 := hbA.trans (hb1.mono hbA.size)
 have hBa1 := hBa.below hb1 hBa.lt
 have hBb1 := hBb.below hb1 hBb.lt
 have a0 := hBa1.cell 0
 have a1 := hBa1.cell 1
 have a2 := hBa1.cell 2
 have b0 := hBb1.cell 0
 have b1 := hBb1.cell 1
 have b2 := hBb1.cell 2
 simp at a0 a1 a2 b0 b1 b2
 clear hBa hBb hbA hb1 hBa1 hBb1
 go_upto_region 5 with fail
 have hbw2 : Below w.heap.size w (w1.alloc (.cells #[.int .i64 f1, .int .i64 t1, .string ⟨s1.toArray⟩, .int .i64 f2, .int .i64 t2, .string ⟨s2.toArray⟩] 39)) := hbw1.alloc hbw1.size _
 have hBs : Blk (w1.alloc (.cells #[.int .i64 f1, .int .i64 t1, .string ⟨s1.toArray⟩, .int .i64 f2, .int .i64 t2, .string ⟨s2.toArray⟩] 39)) w1.heap.size 39 #[.int .i64 f1, .int .i64 t1, .string ⟨s1.toArray⟩, .int .i64 f2, .int .i64 t2, .string ⟨s2.toArray⟩] := Blk.new _ _ _
 have hd2 := hd.below ((Below.refl _ _).alloc (Nat.le_refl _) (.cells #[.int .i64 f1, .int .i64 t1, .string ⟨s1.toArray⟩, .int .i64 f2, .int .i64 t2, .string ⟨s2.toArray⟩] 39))
 clear hd hbw1 a0 a1 a2 b0 b1 b2
 obtain ⟨gp, hgp⟩ : ∃ gp, gp = w1.heap.size := ⟨_, rfl⟩
 rw [← hgp] at hBs ⊢
 clear hgp
 generalize w1.alloc (.cells #[.int .i64 f1, .int .i64 t1, .string ⟨s1.toArray⟩, .int .i64 f2, .int .i64 t2, .string ⟨s2.toArray⟩] 39) = w2 at *
 go_wp2_with fail
 go_loopg [0, 7, 9] 2 (fun mm tx dv iv wr => ∃ (F : Nat → Prop) (s : Bs) (g k : Nat), tx = .string ⟨s.toArray⟩ ∧ dv = .pointer (some ⟨g, 0, none⟩) ∧ iv = .int .i64 k ∧ k ≤ 2 ∧ 2 - k ≤ mm ∧ s.length + remS s1 s2 k ≤ 1048576 ∧ TreeOf wr F g s (Lx.tokR 0 s) (Tr.ksP s (Lx.tokR 0 s)) (Tr.tailP s (Lx.tokR 0 s) (Tr.kidsP s (Lx.tokR 0 s) ((Lx.tokR 0 s).length + 1) 0).2) ∧ Blk wr gp 39 #[.int .i64 f1, .int .i64 t1, .string ⟨s1.toArray⟩, .int .i64 f2, .int .i64 t2, .string ⟨s2.toArray⟩] ∧ Below w.heap.size w wr)
 case atStart => exact ⟨_, s0, g, 0, rfl, rfl, rfl, by omega, by omega, hlen0, hd2, hBs, hbw2⟩
 case round =>
  clear hd2 hBs hbw2
  obtain ⟨F, s, g, k, rfl, rfl, rfl, hk, hm, hsl, hd, hB, hb⟩ := hrel
  have j1 : (0 : Int) ≤ (k : Int) := by omega
  by_cases hlt : k < 2
  ·have j2 : (k : Int) < 2 := by omega
   obtain ⟨f, t, x, c0, c1, c2, hxl⟩ := sp_rem hB hlt
   have hbA : Below wr.heap.size wr (wr.alloc (.cells #[.int .i64 f, .int .i64 t, .string ⟨x.toArray⟩] 39)) := (Below.refl _ _).alloc (Nat.le_refl _) _
   have hX : Blk (wr.alloc (.cells #[.int .i64 f, .int .i64 t, .string ⟨x.toArray⟩] 39)) wr.heap.size 39 #[.int .i64 f, .int .i64 t, .string ⟨x.toArray⟩] := Blk.new _ _ _
   have hdA := hd.below hbA
   have hBA := hB.below hbA hB.lt
   have hbwA := hb.trans (hbA.mono hb.size)
   have hlen : s.length + x.length ≤ 1048576 := by omega
   go_upto_region 9 with fail
   obtain ⟨gx, hgx⟩ : ∃ gx, gx = wr.heap.size := ⟨_, rfl⟩
   rw [← hgx] at hX ⊢
   clear hgx hd hB hb hbA c0 c1 c2
   generalize wr.alloc (.cells #[.int .i64 f, .int .i64 t, .string ⟨x.toArray⟩] 39) = wA at *
   have c0 := hX.cell 0
   have c1 := hX.cell 1
   have c2 := hX.cell 2
   simp at c0 c1 c2
   by_cases hok : 0 ≤ f ∧ f ≤ t ∧ t ≤ s.length
   ·obtain ⟨frm, rfl⟩ : ∃ n : Nat, f = n := ⟨f.toNat, by omega⟩
    obtain ⟨til, rfl⟩ : ∃ n : Nat, t = n := ⟨t.toNat, by omega⟩
    have g1 : frm ≤ til := by omega
    have g2 : til ≤ s.length := by omega
    as_aux_lemma =>
     have hrp := replace_walk (hM.below hbwA hM.lt) (hT.below hbwA) (hW.below hbwA) hdA g1 g2 hlen
     have hnl := Lx.now_len s frm til x g1 g2
     have hnz : (Lx.nowM s frm til x).length + remS s1 s2 (k + 1) ≤ 1048576 := by omega
     have hnd := now_data s x frm til g2
     have han := fun w => anew_walk s frm til x w g1 g2 hlen
     have hnew := fun w hM hT hW => tnew_walk (Lx.nowM s frm til x) m w hM hT hW (by omega)
     obtain ⟨f1', f2', f3', f4', f5', f6', f7'⟩ := tree_facts (Lx.nowM s frm til x) (by omega)
     have Han := Lib.hid han
     have Hnew := Lib.hid hnew
     have HF1 := Lib.hid f1'
     have HF2 := Lib.hid f2'
     have HF3 := Lib.hid f3'
     have HF4 := Lib.hid f4'
     have HF5 := Lib.hid f5'
     have HF6 := Lib.hid f6'
     have HF7 := Lib.hid f7'
     clear hnl han hnew f1' f2' f3' f4' f5' f6' f7'
     have i1 : (0 : Int) ≤ (frm : Int) := by omega
     have i2 : (frm : Int) ≤ (s.length : Int) := by omega
     have i3 : (0 : Int) ≤ (til : Int) := by omega
     have i4 : (til : Int) ≤ (s.length : Int) := by omega
     have i5 : (frm : Int) ≤ (til : Int) := by omega
     obtain ⟨d0, A0, c0', hTi0, hDo0, -, -, -, -⟩ := hdA.ex
     obtain ⟨_, _, _, _, _, _, hTb, -⟩ := hTi0.ex
     obtain ⟨_, _, hDb, -⟩ := id hDo0
     generalize Tr.anewP s frm til x = N at *
     generalize Lx.nowM s frm til x = now at *
     go_wp2_with fail
     refine hrp.mono ?_
     clear hrp
     rintro e w3 ⟨ge, rfl, hde, hb3⟩
     have hX3 := hX.below hb3 hX.lt
     have hB3 := hBA.below hb3 hBA.lt
     have hTb3 := hTb.below hb3 hTb.lt
     have hDb3 := hDb.below hb3 hDb.lt
     have hbw3 := hbwA.trans (hb3.mono hbwA.size)
     clear hX hBA hdA hb3 c0 c1 c2 hTb hDb hTi0 hDo0
     have c0 := hX3.cell 0
     have c1 := hX3.cell 1
     have c2 := hX3.cell 2
     simp at c0 c1 c2
     go_wp2_with fail
     refine (Han.out _).mono ?_
     rintro e w4 ⟨rfl, hb4⟩
     have hX4 := hX3.below hb4 hX3.lt
     have hB4 := hB3.below hb4 hB3.lt
     have hTb4 := hTb3.below hb4 hTb3.lt
     have hDb4 := hDb3.below hb4 hDb3.lt
     have hde4 := hde.below hb4
     have hbw4 := hbw3.trans (hb4.mono hbw3.size)
     clear hX3 hB3 hTb3 hDb3 hde hbw3 hb4 c0 c1 c2 Han
     have c0 := hX4.cell 0
     have c1 := hX4.cell 1
     have c2 := hX4.cell 2
     have z0 := hTb4.cell 0
     have z1 := hDb4.cell 0
     simp at c0 c1 c2 z0 z1
     go_wp2_with fail
     refine (ttext_walk z0 z1).mono ?_
     rintro e w5 ⟨rfl, h5⟩
     subst h5
     clear z0 z1 hTb4 hDb4
     have e1 : ¬ 9223372036854775807 < frm + x.length := by omega
     have e2 : ¬ 9223372036854775807 < frm + x.length + (s.length - til) := by omega
     have hfs : frm ≤ s.length := by omega
     go_wp2_with fail
     go_quiet (fail)
     have hX5 : Blk (w5.drewN nq) gx 39 #[.int .i64 frm, .int .i64 til, .string ⟨x.toArray⟩] := hX4
     have hB5 : Blk (w5.drewN nq) gp 39 #[.int .i64 f1, .int .i64 t1, .string ⟨s1.toArray⟩, .int .i64 f2, .int .i64 t2, .string ⟨s2.toArray⟩] := hB4
     have hde5 := hde4.below (below_drewN (Below.refl _ _) nq)
     have hbw5 : Below w.heap.size w (w5.drewN nq) := below_drewN hbw4 _
     clear hX4 hB4 hde4 hbw4 c0 c1 c2 e1 e2 hfs hnd i1 i2 i3 i4 i5
     generalize w5.drewN nq = w6 at *
     go_wp2_with fail
     refine (Hnew.out w6 (hM.below hbw5 hM.lt) (hT.below hbw5) (hW.below hbw5)).mono ?_
     clear Hnew
     rintro e w7 ⟨gf, rfl, hdf, hb7⟩
     have hde7 := hde5.below hb7
     have hB7 := hB5.below hb7 hB5.lt
     have hbw7 := hbw5.trans (hb7.mono hbw5.size)
     clear hX5 hB5 hde5 hbw5 hb7
     have hdf : TreeOf w7 _ gf now (Lx.tokR 0 now) (Tr.ksP now (Lx.tokR 0 now)) (Tr.tailP now (Lx.tokR 0 now) (Tr.kidsP now (Lx.tokR 0 now) ((Lx.tokR 0 now).length + 1) 0).2) := hdf
     have HB7 : Hid (∀ w', Below w7.heap.size w7 w' → Blk w' gp 39 #[.int .i64 f1, .int .i64 t1, .string ⟨s1.toArray⟩, .int .i64 f2, .int .i64 t2, .string ⟨s2.toArray⟩]) := fun w' h => hB7.below h hB7.lt
     have HdeAt : Hid (∀ w', Below w7.heap.size w7 w' → TreeOf w' _ ge now (Lx.tokR 0 now) (Tr.ksP now (Lx.tokR 0 now)) (Tr.tailP now (Lx.tokR 0 now) (Tr.kidsP now (Lx.tokR 0 now) ((Lx.tokR 0 now).length + 1) 0).2)) := fun w' h => hde7.below h
     obtain ⟨d1, A1, c1', hTe, hDe, -, -, -, -⟩ := hde7.ex
     obtain ⟨d2, A2, c2', hTf, -, -, -, -, -⟩ := hdf.ex
     obtain ⟨_, _, _, _, _, _, hTb, -⟩ := hTe.ex
     obtain ⟨_, _, hDb, -⟩ := id hDe
     obtain ⟨nt, Hnt⟩ : ∃ nt, Hid (Tr.tailN (Tr.tailP now (Lx.tokR 0 now) (Tr.kidsP now (Lx.tokR 0 now) ((Lx.tokR 0 now).length + 1) 0).2) (Tr.kidsN (Tr.ksP now (Lx.tokR 0 now)) []) = nt) := ⟨_, rfl⟩
     have hntl := HF7.out
     rw [Hnt.out] at hntl
     have Hntl := Lib.hid hntl
     clear hntl hde7 hdf hDe
     have hrt := root_walk hTe HF1.out HF2.out HF3.out
     go_wp2_with fail
     refine hrt.mono ?_
     clear hrt
     rintro e w8 ⟨a1, b1, tx1, A3, n1, rfl, hn1, hb8⟩
     have hd9 : Below w8.heap.size w8 (w8.alloc (.cells #[.int .i64 (a1 : Int), .int .i64 (b1 : Int), .string ⟨tx1.toArray⟩, .slice A3 n1 n1] 26)) := (Below.refl _ _).alloc (Nat.le_refl _) _
     have hN9 : Blk (w8.alloc (.cells #[.int .i64 (a1 : Int), .int .i64 (b1 : Int), .string ⟨tx1.toArray⟩, .slice A3 n1 n1] 26)) w8.heap.size 26 #[.int .i64 (a1 : Int), .int .i64 (b1 : Int), .string ⟨tx1.toArray⟩, .slice A3 n1 n1] := Blk.new _ _ _
     have hb79 := hb8.trans (hd9.mono hb8.size)
     have hn9 := NdF.keep (F' := fun _ => True) hd9.size (fun x _ hl => ⟨hd9.block x hl, trivial⟩) _ _ hn1
     obtain ⟨q1, hq1⟩ : ∃ q, q = w8.heap.size := ⟨_, rfl⟩
     rw [← hq1] at hN9
     go_upto_region 25 with fail
     rw [← hq1]
     clear hq1 hn1 hb8 hd9
     generalize w8.alloc (.cells #[.int .i64 (a1 : Int), .int .i64 (b1 : Int), .string ⟨tx1.toArray⟩, .slice A3 n1 n1] 26) = w9 at *
     have hTf9 := hTf.below hb79
     have hTe9 := hTe.below hb79
     have hTb9 := hTb.below hb79 hTb.lt
     have hDb9 := hDb.below hb79 hDb.lt
     have hB9 := hB7.below hb79 hB7.lt
     have hz79 := hb79.size
     clear hTf hTe hTb hDb hB7
     have hrt := root_walk hTf9 HF1.out HF2.out HF3.out
     go_wp2_with fail
     refine hrt.mono ?_
     clear hrt
     rintro e w10 ⟨a2, b2, tx2, A4, n2, rfl, hn2, hb10⟩
     have hd11 : Below w10.heap.size w10 (w10.alloc (.cells #[.int .i64 (a2 : Int), .int .i64 (b2 : Int), .string ⟨tx2.toArray⟩, .slice A4 n2 n2] 26)) := (Below.refl _ _).alloc (Nat.le_refl _) _
     have hN11 : Blk (w10.alloc (.cells #[.int .i64 (a2 : Int), .int .i64 (b2 : Int), .string ⟨tx2.toArray⟩, .slice A4 n2 n2] 26)) w10.heap.size 26 #[.int .i64 (a2 : Int), .int .i64 (b2 : Int), .string ⟨tx2.toArray⟩, .slice A4 n2 n2] := Blk.new _ _ _
     have hb911 := hb10.trans (hd11.mono hb10.size)
     have hn11 := NdF.keep (F' := fun _ => True) hd11.size (fun x _ hl => ⟨hd11.block x hl, trivial⟩) _ _ hn2
     obtain ⟨q2, hq2⟩ : ∃ q, q = w10.heap.size := ⟨_, rfl⟩
     rw [← hq2] at hN11
     go_upto_region 26 with fail
     rw [← hq2]
     clear hq2 hn2 hb10 hd11
     generalize w10.alloc (.cells #[.int .i64 (a2 : Int), .int .i64 (b2 : Int), .string ⟨tx2.toArray⟩, .slice A4 n2 n2] 26) = w11 at *
     have hn11' := NdF.keep (F' := fun _ => True) hb911.size (fun x _ hl => ⟨hb911.block x hl, trivial⟩) _ _ hn9
     have hN11' := hN9.below hb911 hN9.lt
     have hTf11 := hTf9.below hb911
     have hTe11 := hTe9.below hb911
     have hb711 := hb79.trans (hb911.mono hz79)
     clear hTf9 hTe9 hn9 hN9 hTb9 hDb9 hB9 hb79 hb911 hz79
     have hnw := tnotes_walk hTe11 HF1.out HF2.out HF5.out HF6.out (by rw [Hnt.out]; have := Hntl.out; omega)
     rw [Hnt.out] at hnw
     go_wp2_with fail
     refine hnw.mono ?_
     clear hnw
     rintro e w12 ⟨A5, rfl, hr12, hb12⟩
     have hTf12 := hTf11.below hb12
     have hnw := tnotes_walk hTf12 HF1.out HF2.out HF5.out HF6.out (by rw [Hnt.out]; have := Hntl.out; omega)
     rw [Hnt.out] at hnw
     go_wp2_with fail
     refine hnw.mono ?_
     clear hnw
     rintro e w13 ⟨A6, rfl, hr13, hb13⟩
     have hb1113 := hb12.trans (hb13.mono hb12.size)
     have hr13' := (hr12.below hb13).more hb13.size
     have hna := NdF.keep (F' := fun _ => True) hb1113.size (fun x _ hl => ⟨hb1113.block x hl, trivial⟩) _ _ hn11'
     have hnb := NdF.keep (F' := fun _ => True) hb1113.size (fun x _ hl => ⟨hb1113.block x hl, trivial⟩) _ _ hn11
     have hNa := hN11'.below hb1113 hN11'.lt
     have hNb := hN11.below hb1113 hN11.lt
     have hb713 := hb711.trans (hb1113.mono hb711.size)
     clear hTf11 hTe11 hTf12 hr12 hb12 hb13 hb1113 hn11 hn11' hN11 hN11' hb711
     have u0 := hNa.cell 0
     have u1 := hNa.cell 1
     have u2 := hNa.cell 2
     have u3 := hNa.cell 3
     have v0 := hNb.cell 0
     have v1 := hNb.cell 1
     have v2 := hNb.cell 2
     have v3 := hNb.cell 3
     simp at u0 u1 u2 u3 v0 v1 v2 v3
     have hns := nodes_same _ HF4.out w13 _ _ _ _ _ _ _ _ _ _ _ _ hna hnb
     clear hna hnb hNa hNb
     go_wp2_with fail
     refine hns.mono ?_
     clear hns u0 u1 u2 u3 v0 v1 v2 v3
     rintro e w14 ⟨rfl, hb14⟩
     have hr14 := (hr13.below hb14).more hb14.size
     have hr14' := (hr13'.below hb14).more hb14.size
     have hb714 := hb713.trans (hb14.mono hb713.size)
     have hde14 := HdeAt.out w14 hb714
     have hbw14 := hbw7.trans (hb714.mono hbw7.size)
     have hB14 : Blk w14 gp 39 #[.int .i64 f1, .int .i64 t1, .string ⟨s1.toArray⟩, .int .i64 f2, .int .i64 t2, .string ⟨s2.toArray⟩] := HB7.out w14 hb714
     obtain ⟨d3, A7, c3', hTg, hDg, -, -, -, -⟩ := hde14.ex
     obtain ⟨_, _, _, _, _, _, hTh, -⟩ := hTg.ex
     obtain ⟨_, _, hDh, -⟩ := id hDg
     have z0 := hTh.cell 0
     have z1 := hDh.cell 0
     simp at z0 z1
     clear hr13 hr13' hb713 hb14 hb714 hTg hDg hTh hDh
     go_wp2_with fail
     refine (ttext_walk z0 z1).mono ?_
     rintro e w15 ⟨rfl, h15⟩
     subst h15
     clear z0 z1
     go_wp2_with fail
     go_loopg [25] nt.length (fun mm v wr => ∃ j : Nat, v = .int .i64 (j : Int) ∧ j ≤ nt.length ∧ nt.length - j ≤ mm ∧ Below w15.heap.size w15 wr)
     case atStart => exact ⟨0, rfl, Nat.zero_le _, Nat.sub_le _ _, Below.refl _ _⟩
     case round =>
      obtain ⟨j, rfl, hj, hmm, hb⟩ := hrel
      have hbs := hb.size
      by_cases hjl : j < nt.length
      ·obtain ⟨br, o, rfl, hbB, c0, c1, c2⟩ := Rd.nt (hr14'.below hb) hjl
       obtain ⟨br', o', rfl, hbB', d0, d1, d2⟩ := Rd.nt (hr14.below hb) hjl
       have y1 : (0 : Int) ≤ (j : Int) := by omega
       have y2 : (j : Int) < (nt.length : Int) := by omega
       have hnb : nt.length ≤ 100000000 := Hntl.out
       generalize nt[j] = xn at *
       obtain ⟨xn1, xn2, xn3⟩ := xn
       simp only at c0 c1 c2 d0 d1 d2
       go_wp2_with fail
       go_quiet (fail)
       go_wp2_with fail
       go_roundg (nt.length - (j + 1))
       case rel => exact ⟨j + 1, by go_num, by omega, Nat.le_refl _, below_drewN hb _⟩
       case measure => omega
      ·have y1 : ¬ (j : Int) < (nt.length : Int) := by omega
       have y2 : decide (j < nt.length) = false := by simpa using hjl
       have hdeF := hde14.below hb
       have hBF := hB14.below hb hB14.lt
       have hbwF := hbw14.trans (hb.mono hbw14.size)
       clear hr14 hr14' hde14 hB14 hbw14 hb hjl hmm hj
       go_wp2_with fail
       go_roundg (2 - (k + 1))
       case rel => exact ⟨_, now, ge, k + 1, rfl, rfl, by go_num, by omega, Nat.le_refl _, hnz, hdeF, hBF, hbwF⟩
       case measure => omega
   ·as_aux_lemma =>
     have hrp := treplace_bad (f := f) (e2 := t) (ins := x) hdA hok
     have hw : f < 0 ∨ (¬ f < 0 ∧ t < f) ∨ (¬ f < 0 ∧ ¬ t < f ∧ (s.length : Int) < t) := by omega
     clear hok
     go_wp2_with fail
     refine hrp.mono ?_
     clear hrp
     rintro e w3 ⟨rfl, hb3⟩
     have hX3 := hX.below hb3 hX.lt
     have c0 := hX3.cell 0
     have c1 := hX3.cell 1
     simp at c0 c1
     have herr := error_yes 1 1 w3 ((hE.size hbwA).size hb3) rfl
     have hbw3 := hbwA.trans (hb3.mono hbwA.size)
     clear hX hX3 hdA hBA
     rcases hw with e1 | ⟨e1, e2⟩ | ⟨e1, e2, e3⟩
     ·have d1 : decide (0 ≤ f) = false := by simp; omega
      go_wp2_with fail
      refine herr.mono ?_
      rintro e w4 ⟨rfl, hb4⟩
      go_wp2_with fail
      go_ret
      exact ⟨rfl, hbw3.trans (hb4.mono hbw3.size)⟩
     ·have d1 : decide (0 ≤ f) = true := by simp; omega
      have d2 : decide (f ≤ t) = false := by simp; omega
      go_wp2_with fail
      refine herr.mono ?_
      rintro e w4 ⟨rfl, hb4⟩
      go_wp2_with fail
      go_ret
      exact ⟨rfl, hbw3.trans (hb4.mono hbw3.size)⟩
     ·have d1 : decide (0 ≤ f) = true := by simp; omega
      have d2 : decide (f ≤ t) = true := by simp; omega
      have d3 : decide (t ≤ (s.length : Int)) = false := by simp; omega
      go_wp2_with fail
      refine herr.mono ?_
      rintro e w4 ⟨rfl, hb4⟩
      go_wp2_with fail
      go_ret
      exact ⟨rfl, hbw3.trans (hb4.mono hbw3.size)⟩
  ·obtain rfl : k = 2 := by omega
   go_wp2_with fail
   go_ret
   exact ⟨rfl, hb⟩
end Go.Proofs.YtalklmeejdmifaaGreatDoor
namespace Go.Proofs.YtalklmeejdmifaaGreatDoor
open Go.RowKit Go.ChangeShapes Go.WideShapes Go.Deep
theorem array3 {α : Type} {l : Array α} (h : l.size = 3) : ∃ a b c, l = #[a, b, c] := by
 obtain ⟨l⟩ := l
 match l, h with
 | [a, b, c], _ => exact ⟨a, b, c, rfl⟩
set_option maxRecDepth 100000 in
theorem open_span {H : Type} {enc : TypeId × Value → H} {w : World} {base : Nat} {spare : Nat → Bool} {held : Bool} {b0 : Nat} {v : Value} {d : DataW H} {p : List MemPlace}
  (hv : Value.okWide Tryz.prog w .any b0 39 v) (h : DataW.Trod enc Tryz.prog w base spare held 39 v d p) :
  ∃ (f t : Int) (s : Bs), v = .agg #[.int .i64 f, .int .i64 t, .string ⟨s.toArray⟩] ∧ s.length ≤ Rows.uptoBulk d ∧ (-9223372036854775808 ≤ f ∧ f ≤ 9223372036854775807) ∧ (-9223372036854775808 ≤ t ∧ t ≤ 9223372036854775807) := by
 obtain ⟨cs, rfl, hsz⟩ := okWide_struct Tryz.underlying39 hv
 obtain ⟨s0, s1, s2, rfl⟩ := array3 (hsz.trans (by kernel_rfl))
 obtain ⟨fuel, hf⟩ := h
 obtain ⟨ys, n', hn', hy, hlen, hyl, hfs⟩ := DataW.trod_struct Tryz.underlying39 hf
 simp only [Prod.mk.injEq] at hy
 have h3 : Tryz.prog.cellsOf 3 = 1 := by kernel_rfl
 have h9 : Tryz.prog.cellsOf 9 = 1 := by kernel_rfl
 match ys, hyl with
 | [y0, y1, y2], _ =>
  have t0 := hfs 0 _ rfl
  have t1 := hfs 1 _ rfl
  have t2 := hfs 2 _ rfl
  simp [Value.cells, h3, h9] at t0 t1 t2
  obtain ⟨x0, q0, rfl, w0⟩ := DataW.trod_int Tryz.underlying3 t0
  obtain ⟨x1, q1, rfl, w1⟩ := DataW.trod_int Tryz.underlying3 t1
  obtain ⟨x2, q2, rfl, _⟩ := DataW.trod_string Tryz.underlying9 t2
  simp only [List.cons.injEq, and_true] at q0 q1 q2
  subst q0 q1 q2
  have hbd : Rows.uptoBulk d = 2 + (x2.data.toList.length + 1) + 1 := by
   rw [hy.1]
   simp only [List.map_cons, List.map_nil, Rows.uptoBulk, Rows.uptoBulkAll]
   omega
  have b0 := bounds_i64 w0
  have b1 := bounds_i64 w1
  exact ⟨x0, x1, x2.data.toList, by simp only [Lib.mk_data], by omega, ⟨b0.1, b0.2⟩, b1.1, b1.2⟩
end Go.Proofs.YtalklmeejdmifaaGreatDoor
namespace Go.Proofs.YtalklmeejdmifaaGreatDoor
open Go.RowKit Go.ChangeShapes Go.WideShapes Go.Deep
namespace bulks
theorem one_le {H : Type} (d : DataW H) : 1 ≤ Rows.uptoBulk d := by
 cases d with
 | lit l => cases l <;> simp [Rows.uptoBulk]
 | nil => simp [Rows.uptoBulk]
 | ptr d => simp [Rows.uptoBulk]
 | slice elems spare => simp [Rows.uptoBulk]
 | agg parts => simp [Rows.uptoBulk]
 | iface t d => simp [Rows.uptoBulk]
 | map entries => simp [Rows.uptoBulk]
 | held h => simp [Rows.uptoBulk]
theorem bound {H : Type} {l : List (DataW H)} (hk : Rows.uptoSmall H l = true) : Rows.uptoBulkAll l ≤ 1048576 := of_decide_eq_true hk
end bulks
end Go.Proofs.YtalklmeejdmifaaGreatDoor
namespace Go.Proofs.YtalklmeejdmifaaGreatDoor
open Go.ChangeShapes Go.WideShapes Go.RowKit
theorem maxL_of {W : World} (h : W.ShapedOpen Tryz.prog) : ∃ m, MaxL W m :=
 Go.Proofs.cell_of_shapedOpen_int (zero := #[.int .i64 0]) (t := 3) h (by decide) (by kernel_rfl) rfl (by kernel_rfl) (by kernel_rfl) Tryz.underlying3
namespace laidW
theorem acc_eq : Rows.laid_unicode_utf8_acceptRanges = Lib.acceptData := by kernel_rfl
theorem first_eq : Rows.laid_unicode_utf8_first = Lib.firstData := Pinned.utf8First_eq
def litV : DataW Unit → List Value
 | .agg ds => ds.map fun
  | .lit (.int k z) => .int k z
  | _ => .bool false
 | _ => []
noncomputable def frameWorld (os : Os) : World :=
 let w0 := World.holding Tryz.prog os ⟨#[], #[], []⟩
 let put (h : Array Obj) (g : Nat) (cs : Array Value) : Array Obj := h.modify g fun
  | .cells _ t frozen => .cells cs t frozen
  | o => o
 let h1 := put w0.heap 3 (Lib.firstTab.map fun z => Value.int .u8 z).toArray
 let h2 := put h1 4 ((List.range 16).flatMap fun i => [Value.int .u8 (Lib.accLo i), Value.int .u8 (Lib.accHi i)]).toArray
 let h3 := put h2 8 (litV Rows.laid_math_bits_deBruijn32tab).toArray
 let h4 := put h3 9 (litV Rows.laid_math_bits_deBruijn64tab).toArray
 let h5 := put h4 7 (litV Rows.laid_internal_strconv_uint64pow10).toArray
 let n := h5.size
 let h6 := h5.push (.cells #[.string ⟨#[118, 97, 108, 117, 101, 32, 111, 117, 116, 32, 111, 102, 32, 114, 97, 110, 103, 101]⟩] 376)
 let h7 := h6.push (.cells #[.string ⟨#[105, 110, 118, 97, 108, 105, 100, 32, 115, 121, 110, 116, 97, 120]⟩] 376)
 let h8 := put h7 6 #[.iface 374 (.pointer (some ⟨n, 0, none⟩))]
 let h9 := put h8 5 #[.iface 374 (.pointer (some ⟨n + 1, 0, none⟩))]
 { w0 with heap := h9 }
end laidW
end Go.Proofs.YtalklmeejdmifaaGreatDoor
namespace Go.Proofs.YtalklmeejdmifaaGreatDoor
open Go.ChangeShapes Go.WideShapes Go.RowKit
namespace laidW
theorem et : Tryz.prog.globalNamed "errors.errorType" = some 0 := by kernel_rfl
theorem rt : (Tryz.prog.cutTypes.find? (·.1 == "internal/reflectlite.rtype")).map (·.2) = some 264 := by kernel_rfl
theorem oneRow : ((List.range 417).filter fun t => Tryz.prog.rowNamed t [101, 114, 114, 111, 114]) = [42] := by kernel_rfl
theorem tsize : Tryz.prog.types.size = 417 := by kernel_rfl
theorem errT_of {W : World} (h : handlesMet Tryz.prog [("errors.errorType", Rows.laid_errors_errorType)] W) : ErrT W := by
 obtain ⟨name, u, ty, e1, e2, e3, e4, e5⟩ := h _ (List.mem_singleton.2 rfl)
 have en : name = [101, 114, 114, 111, 114] := (Option.some.inj e1).symm
 subst en
 obtain rfl := Option.some.inj (rt.symm.trans e2)
 have hm : ty ∈ (List.range 417).filter fun t => Tryz.prog.rowNamed t [101, 114, 114, 111, 114] := List.mem_filter.2 ⟨List.mem_range.2 (by rw [← tsize]; exact e3), e4⟩
 rw [oneRow] at hm
 obtain rfl := List.mem_singleton.1 hm
 have hh : typeHandle Tryz.prog 42 = .pointer (some ⟨10, 42, none⟩) := by kernel_rfl
 rw [hh] at e5
 unfold ErrT
 simpa using World.var?_cell et e5 0
abbrev lexList : List (String × DataW Unit) := [("math/bits.deBruijn32tab", Rows.laid_math_bits_deBruijn32tab), ("math/bits.deBruijn64tab", Rows.laid_math_bits_deBruijn64tab), ("internal/strconv.uint64pow10", Rows.laid_internal_strconv_uint64pow10), ("unicode/utf8.acceptRanges", Rows.laid_unicode_utf8_acceptRanges), ("strconv.ErrRange", Rows.laid_strconv_ErrRange), ("strconv.ErrSyntax", Rows.laid_strconv_ErrSyntax), ("amanuensis/lex.words", Rows.laid_amanuensis_lex_words), ("unicode/utf8.first", Rows.laid_unicode_utf8_first)]
theorem t8_of {l : List (String × DataW Unit)} {W : World} (h : laidMet Tryz.prog l W) (h1 : ("unicode/utf8.acceptRanges", Rows.laid_unicode_utf8_acceptRanges) ∈ l) (h2 : ("unicode/utf8.first", Rows.laid_unicode_utf8_first) ∈ l) : T8 W := by
 rw [acc_eq] at h1
 rw [first_eq] at h2
 exact utf8Tabs_of_reads (ρ := Tryz.lays197_ren) { Tryz.lays197 with } ⟨by kernel_rfl, by kernel_rfl, by kernel_rfl, by kernel_rfl, by kernel_rfl, by kernel_rfl, by kernel_rfl⟩ (Lib.laidMet.reads h h2) (Lib.laidMet.reads h h1)
theorem gW : Tryz.prog.globalNamed "amanuensis/lex.words" = some 1 := by kernel_rfl
theorem cells_of_strs {H : Type} {enc : TypeId × Value → H} {P : Program} {w : World} {base : Nat} {sp : Nat → Bool} {held : Bool} {fuel : Nat} {t e : TypeId} {n : Nat} {cs : List Value} {zs : List Bs} {p : List MemPlace}
  (ht : P.underlying t = some (.array n e)) (he : P.underlying e = some .string) (hce : P.cellsOf e = 1) (hct : P.cellsOf t = n)
  (h : DataW.trod enc P w base sp held fuel t cs = some (.agg (zs.map fun z => .lit (.string z)), p)) : cs = txtV zs := by
 cases fuel with
 | zero => simp [DataW.trod] at h
 | succ fuel =>
  simp only [DataW.trod, ht, hce, hct, Nat.mul_one] at h
  split at h
  ·rename_i hl
   obtain ⟨xs, hm, hx⟩ := Option.map_eq_some_iff.1 h
   have hxs : xs.map (·.1) = zs.map fun z => (DataW.lit (.string z) : DataW H) := by
    have := congrArg Prod.fst hx
    simpa using this
   have hxl : xs.length = n := by simpa using Lib.mapM_length hm
   have hzl : zs.length = n := by
    have := congrArg List.length hxs
    simp at this
    omega
   apply List.ext_getElem?
   intro i
   by_cases hi : i < n
   ·obtain ⟨b, hb, hf⟩ := Lib.mapM_at hm i i (by simp [hi])
    obtain ⟨z, hc, rfl, _⟩ := DataW.trod_string he hf
    have h1 : cs[i]? = some (.string z) := by
     have := congrArg (·[0]?) hc
     simpa [List.getElem?_take, List.getElem?_drop] using this
    have h2 : (xs.map (·.1))[i]? = some (DataW.lit (.string z.data.toList) : DataW H) := by simp [hb]
    rw [hxs] at h2
    simp only [List.getElem?_map, Option.map_eq_some_iff, DataW.lit.injEq, Lit.string.injEq] at h2
    obtain ⟨z', hz', h3⟩ := h2
    rw [h1]
    simp only [txtV, List.getElem?_map, hz', Option.map_some, h3, strV]
   ·rw [List.getElem?_eq_none (by omega), List.getElem?_eq_none (by rw [txtV_len]; omega)]
  ·cases h
theorem words_eq : (Rows.laid_amanuensis_lex_words : DataW Unit) = .agg (Lx.words.map fun z => .lit (.string z)) := by kernel_rfl
theorem words_of {l : List (String × DataW Unit)} {W : World} (h : laidMet Tryz.prog l W) (h1 : ("amanuensis/lex.words", Rows.laid_amanuensis_lex_words) ∈ l) : WordsIs W := by
 obtain ⟨g, t, cs, fuel, p, e1, e2, e3, e4⟩ := Lib.laidMet.reads h h1
 obtain rfl := Option.some.inj (gW.symm.trans e1)
 have e5 : (Tryz.prog.globals[1]?).map (·.type) = some 304 := by kernel_rfl
 obtain rfl := Option.some.inj (e5.symm.trans e2)
 rw [words_eq] at e4
 have hc := cells_of_strs (n := 12) Tryz.underlying304 Tryz.underlying9 (by kernel_rfl) (by kernel_rfl) e4
 have hcell : ∀ i, W.cell? ⟨1, i, none⟩ = (txtV Lx.words)[i]? := fun i => by
  rw [World.var?_cell gW e3 i, ← hc]; simp
 refine ⟨by kernel_rfl, fun _ => ⟨_, 0, rfl, ?_, fun i u hu => by rw [Nat.zero_add, hcell]; exact hu⟩⟩
 exact World.block_lt_of_cell? (a := ⟨1, 0, none⟩) W (hcell 0)
noncomputable def lexWorld (os : Os) : World :=
 let w0 := frameWorld os
 { w0 with heap := w0.heap.modify 1 fun
   | .cells _ t frozen => .cells (txtV Lx.words).toArray t frozen
   | o => o }
abbrev againList : List (String × DataW Unit) := [("math/bits.deBruijn32tab", Rows.laid_math_bits_deBruijn32tab), ("math/bits.deBruijn64tab", Rows.laid_math_bits_deBruijn64tab), ("internal/strconv.uint64pow10", Rows.laid_internal_strconv_uint64pow10), ("unicode/utf8.acceptRanges", Rows.laid_unicode_utf8_acceptRanges), ("errors.errorType", Rows.laid_errors_errorType), ("strconv.ErrRange", Rows.laid_strconv_ErrRange), ("strconv.ErrSyntax", Rows.laid_strconv_ErrSyntax), ("amanuensis/lex.words", Rows.laid_amanuensis_lex_words), ("unicode/utf8.first", Rows.laid_unicode_utf8_first)]
theorem again_of {W : World} (h : laidMetH Tryz.prog againList W) : T8 W ∧ WordsIs W ∧ ErrT W := by
 have h' : laidMet Tryz.prog lexList W ∧ handlesMet Tryz.prog [("errors.errorType", Rows.laid_errors_errorType)] W := h
 exact ⟨t8_of h'.1 (by simp [lexList]) (by simp [lexList]), words_of h'.1 (by simp [lexList]), errT_of h'.2⟩
noncomputable def againWorld (os : Os) : World :=
 let w0 := lexWorld os
 { w0 with heap := w0.heap.modify 0 fun
   | .cells _ t frozen => .cells #[.iface 264 (.agg #[.pointer (some ⟨10, 42, none⟩)])] t frozen
   | o => o }
set_option maxRecDepth 100000 in
theorem again_met0 (os : Os) (args : Array Value) : laidMet Tryz.prog lexList ((againWorld os).forCall (fun _ _ => 0) ⟨#[], args, []⟩).memory := by
 unfold lexList
 rw [acc_eq, first_eq]
 exact (LaidIn.of_run (l := [("math/bits.deBruijn32tab", Rows.laid_math_bits_deBruijn32tab), ("math/bits.deBruijn64tab", Rows.laid_math_bits_deBruijn64tab), ("internal/strconv.uint64pow10", Rows.laid_internal_strconv_uint64pow10), ("unicode/utf8.acceptRanges", Lib.acceptData), ("strconv.ErrRange", Rows.laid_strconv_ErrRange), ("strconv.ErrSyntax", Rows.laid_strconv_ErrSyntax), ("amanuensis/lex.words", Rows.laid_amanuensis_lex_words), ("unicode/utf8.first", Lib.firstData)]) (List.range 40) 8 (by kernel_rfl) (by kernel_rfl) (by kernel_rfl) (by kernel_rfl)).met
theorem again_met (os : Os) (args : Array Value) : laidMetH Tryz.prog againList ((againWorld os).forCall (fun _ _ => 0) ⟨#[], args, []⟩).memory :=
 laidMetH_of_parts (show laidMet Tryz.prog lexList _ from again_met0 os args) (by kernel_rfl)
end laidW
end Go.Proofs.YtalklmeejdmifaaGreatDoor
