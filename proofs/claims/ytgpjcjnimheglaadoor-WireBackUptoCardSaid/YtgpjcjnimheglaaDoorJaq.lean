/-
  JOINED of the texts WB LaidW LaidD LaidB
-/
import Derived.Test.YtgpjcjnimheglaaDoorJap
import Derived.StillTailTactics
import Derived.Recover
import Derived.RegionTactic
import Derived.ChangeAlike
import Derived.Deep.RegionHeld3
import Derived.Deep.CutBlock
import Derived.Deep.LoopGhost
import Derived.Lib.ItoaNum
import Derived.Lib.RuneBytes
import Derived.Lib.Strings
import Derived.Lib.ConvBytes
import Derived.Laws.Strings3
import Derived.Laws.Closers25
import Derived.Laws.Closers25b
import Derived.BigCall
import Derived.BigGuard
import Derived.Test.YtgpjcjnimheglaaDoorShelfX
import Derived.Shelf.Spec.BytesIndexFunc
import Derived.Deep.DeepCutAuto
import Derived.Lib.IndexMore
import Derived.Test.YtgpjcjnimheglaaDoorRows
import Derived.WalkKit
import Derived.WalkSpells
import Derived.WalkLawsBesides
import Derived.Below
import Derived.Laws.OwnMore
import Derived.Deep.AppendLies
import Derived.Deep.Draws
import Derived.Lib.Hide
import Derived.Deep.QuietTactic
import Derived.BigQuiet
import Derived.IntWalk
import Derived.Test.YtgpjcjnimheglaaDoorShelfW
import Derived.Shelf.Strings.SlTrimAscii
import Derived.Lib.LaidTab
import Derived.Lib.AtoiAll
import Derived.Lib.IndexLaws
import Derived.Lib.SlTrimSet
import Derived.Lib.Atoi
import Derived.Test.YtgpjcjnimheglaaDoorShelf
import Derived.Shelf.Strings.Builder1
import Derived.WalkMore
import Derived.ScopeJumps
import Derived.Test.YtgpjcjnimheglaaDoorShelfP
import Derived.Lib.BufferRead
import Derived.ProofKit
import Derived.OpenShut
import Derived.JoinedCond
import Derived.Deep.Slices
import Derived.Deep.Fields
import Derived.ChangeSame
import Derived.SliceStrings
import Derived.Test.YtgpjcjnimheglaaDoorJad
import Derived.PinnedBridge
import Derived.Lib.LaidU8
import Derived.Lib.LaidIn
import Derived.RowKitTokens
import Derived.LaidLaws
import Derived.Stop.Joined
import Derived.Stop.LaidErr
import Derived.Shelf.Vars
import Derived.Test.YtgpjcjnimheglaaDoorJal
/-
  THE WALK of the law WireBack.
-/
namespace Go.Proofs.YtgpjcjnimheglaaDoor
open Go.RowKit

theorem wpV_zero (t : Bs) : wpV (0, t) = .tuple #[.string ⟨t.toArray⟩, .nilIface] := by unfold wpV; rw [if_pos rfl]
theorem wpV_one (e : Nat) (t : Bs) (h : e ≠ 0) : wpV (e, t) = .tuple #[.string ⟨#[]⟩, .iface 38 (.int .i64 e)] := by unfold wpV; rw [if_neg h]
/-- a boxed value -/
theorem box_at (w : World) (cs : Array Value) : Below w.heap.size w (w.alloc (.cells cs 25)) ∧ Blk (w.alloc (.cells cs 25)) w.heap.size 25 cs := ⟨(Below.refl _ _).alloc (Nat.le_refl _) _, Blk.new _ _ _⟩

set_option maxHeartbeats 8000000 in
set_option maxRecDepth 100000 in
theorem back_walk (j : JT) (N : Nat) (Ak Ad : Option Addr) (ck cd : Nat) (s : Bs) (w : World) (hT : Tab10 w) (hD : DB w) (hj : JIn w w.heap.size N j Ak ck Ad) (hw : j.wt ≤ 8388608) (hl : s.length ≤ 1048576) :
    Calls Tryd.prog 3 #[.agg #[.int .i64 j.kind, .int .i64 j.num, .string ⟨j.text.toArray⟩, .slice Ak j.keys.length ck, .slice Ad j.kids.length cd], .string ⟨s.toArray⟩] w fun e w' => e = .returned (.bool true) ∧ Below w.heap.size w w' := by
  have hTl := hT.lt
  have hDl := hD.lt
  obtain ⟨hb0, hB0⟩ := box_at w #[.int .i64 j.kind, .int .i64 j.num, .string ⟨j.text.toArray⟩, .slice Ak j.keys.length ck, .slice Ad j.kids.length cd]
  obtain ⟨bx, hbx⟩ : ∃ b, b = w.heap.size := ⟨_, rfl⟩
  rw [← hbx] at hB0
  have hj0 := hj.on hb0
  have hT0 := hT.below hb0 hTl
  have hD0 := hD.below hb0
  have hpr := wprint_walk j _ N Ak Ad ck cd _ hT0 hD0 hj0 (Nat.le_refl _) (by omega)
  have hln := printM_len 40 j
  generalize hX : printM 40 j = X at *
  obtain ⟨fe, ft⟩ := X
  have HX := Lib.hid hX
  have hft : ft.length ≤ 16777216 := by have : ft.length ≤ j.wt := hln; omega
  clear hX hln
  go_enter Tryd.func3, Tryd.ntmps3
  go_upto_region 1 with fail
  rw [← hbx]
  clear hbx
  generalize (w.alloc (.cells #[.int .i64 j.kind, .int .i64 j.num, .string ⟨j.text.toArray⟩, .slice Ak j.keys.length ck, .slice Ad j.kids.length cd] 25)) = w1 at *
  have c0 := hB0.cell 0
  have c1 := hB0.cell 1
  have c2 := hB0.cell 2
  have c3 := hB0.cell 3
  have c4 := hB0.cell 4
  simp at c0 c1 c2 c3 c4
  go_wp2_with fail
  refine hpr.mono ?_
  clear hpr
  rintro e w2 ⟨rfl, hb2⟩
  have hz1 := hb0.size
  have hB2 := hB0.below hb2 hB0.lt
  have hj2 := hj0.on hb2
  have hbw := hb0.trans (hb2.mono hz1)
  have hT2 := hT0.below hb2 hT0.lt
  have hD2 := hD0.below hb2
  clear hB0 hj0 hb0 hb2 hT0 hD0 hz1 c0 c1 c2 c3 c4
  have HC : Hid (fe = 0 ∧ wpV (fe, ft) = .tuple #[.string ⟨ft.toArray⟩, .nilIface] ∨ fe ≠ 0 ∧ wpV (fe, ft) = .tuple #[.string ⟨#[]⟩, .iface 38 (.int .i64 fe)]) := by
    show _ ∨ _
    by_cases h : fe = 0
    · subst h; exact .inl ⟨rfl, wpV_zero ft⟩
    · exact .inr ⟨h, wpV_one fe ft h⟩
  generalize wpV (fe, ft) = V at *
  have Hbw := Lib.hid hbw
  clear hbw
  rcases HC.out with ⟨h, rfl⟩ | ⟨h, rfl⟩
  subst h
  have hP := parse_walk ft hft w2
  rw [Jp.parse_print HX.out] at hP
  clear HX HC
  go_wp2_with fail
  refine hP.mono ?_
  clear hP
  intro e w3 h3
  obtain ⟨hb3, A1, c1, D1, d1, rfl, hk⟩ := (show Below w2.heap.size w2 w3 ∧ ∃ Ak ck Ad cd, e = .returned (.tuple #[jVal j Ak ck Ad cd, .int .i64 0, .nilIface]) ∧ JInF w3 (fun b => w2.heap.size ≤ b) 41 j Ak ck Ad from h3)
  clear h3
  obtain ⟨hb4, hB4⟩ := box_at w3 #[.int .i64 j.kind, .int .i64 j.num, .string ⟨j.text.toArray⟩, .slice A1 j.keys.length c1, .slice D1 j.kids.length d1]
  obtain ⟨bk, hbk⟩ : ∃ b, b = w3.heap.size := ⟨_, rfl⟩
  rw [← hbk] at hB4
  have hb24 := hb3.trans (hb4.mono hb3.size)
  have hk4 := hk.toIn.on hb4
  have hj4 := hj2.on hb24
  have hB3 := hB2.below hb24 hB2.lt
  have hbw := Hbw.out.trans (hb24.mono Hbw.out.size)
  have hT3 := hT2.below hb24 hT2.lt
  have hD3 := hD2.below hb24
  clear hk hj2 hB2 hT2 hD2 hb3 hb4 hb24 Hbw
  unfold jVal strV
  go_upto_region 4 with fail
  rw [← hbk]
  clear hbk
  generalize (w3.alloc (.cells #[.int .i64 j.kind, .int .i64 j.num, .string ⟨j.text.toArray⟩, .slice A1 j.keys.length c1, .slice D1 j.kids.length d1] 25)) = w4 at *
  have hsm := same_walk N 41 j Ak Ad A1 D1 ck cd c1 d1 w4 (by omega) hj4 hk4
  unfold strV at hsm
  have g0 := hB3.cell 0
  have g1 := hB3.cell 1
  have g2 := hB3.cell 2
  have g3 := hB3.cell 3
  have g4 := hB3.cell 4
  simp at g0 g1 g2 g3 g4
  have e0 := hB4.cell 0
  have e1 := hB4.cell 1
  have e2 := hB4.cell 2
  have e3 := hB4.cell 3
  have e4 := hB4.cell 4
  simp at e0 e1 e2 e3 e4
  go_wp2_with fail
  refine hsm.mono ?_
  clear hsm hj4 hk4 g0 g1 g2 g3 g4 e0 e1 e2 e4 e3
  rintro e w5 ⟨rfl, hb5⟩
  have hb := hbw.trans (hb5.mono hbw.size)
  have hTw := hT3.below hb5 hT3.lt
  have hDw := hD3.below hb5
  clear hT3 hD3 hB3 hB4 hb5 hbw
  have Hb := Lib.hid hb
  clear hb
  go_upto_region 7 with fail
  rotate_left
  clear HX HC hj2 hB2
  go_upto_region 7 with fail
  have hTw := hT2
  have hDw := hD2
  have Hb := Hbw
  clear hT2 hD2 Hbw
  generalize w2 = w5 at *
  all_goals
    have hPs := parse_walk s (by omega) w5
    have HR : Hid (∀ a k, Jp.parseP s = .ok a k → (printM 40 a).1 = 0 ∧ a.wt ≤ 50331648 ∧ k = 0 ∧ (printM 40 a).2.length ≤ 16777216) := fun a k h => by
      have h1 := Jp.parse_right h
      have h2 := Jp.parse_pl h 40
      exact ⟨h1.1, by omega, h1.2.2, by omega⟩
    generalize Jp.parseP s = R at *
    go_wp2_with fail
    refine hPs.mono ?_
    clear hPs
    intro e w6 h6
    cases R with
    | bad p er =>
      obtain ⟨hb6, rfl⟩ := (show Below w5.heap.size w5 w6 ∧ e = .returned (.tuple #[.agg (jz 0 0 []), .int .i64 p, .iface 38 (.int .i64 er)]) from h6)
      clear h6 HR
      simp only [jz]
      go_wp2_with fail
      go_ret
      refine ⟨rfl, ?_⟩
      have hb := Hb.out.trans (hb6.mono Hb.out.size)
      exact hb.trans (((Below.refl _ _).alloc (Nat.le_refl _) _).mono hb.size)
    | ok a k =>
      obtain ⟨hb6, A1, c1, D1, d1, rfl, hk⟩ := (show Below w5.heap.size w5 w6 ∧ ∃ Ak ck Ad cd, e = .returned (.tuple #[jVal a Ak ck Ad cd, .int .i64 0, .nilIface]) ∧ JInF w6 (fun b => w5.heap.size ≤ b) 41 a Ak ck Ad from h6)
      clear h6
      obtain ⟨hz, hwa, _, hla⟩ := HR.out a k rfl
      clear HR
      obtain ⟨hb7, hB7⟩ := box_at w6 #[.int .i64 a.kind, .int .i64 a.num, .string ⟨a.text.toArray⟩, .slice A1 a.keys.length c1, .slice D1 a.kids.length d1]
      obtain ⟨ba, hba⟩ : ∃ b, b = w6.heap.size := ⟨_, rfl⟩
      rw [← hba] at hB7
      have hb57 := hb6.trans (hb7.mono hb6.size)
      have ha7 := hk.toIn.on hb7
      have hT7 := hTw.below hb57 hTw.lt
      have hD7 := hDw.below hb57
      have Hb7 := Lib.hid (Hb.out.trans (hb57.mono Hb.out.size))
      clear hk hTw hDw hb6 hb7 hb57 Hb
      unfold jVal strV
      go_upto_region 10 with fail
      rw [← hba]
      clear hba
      generalize (w6.alloc (.cells #[.int .i64 a.kind, .int .i64 a.num, .string ⟨a.text.toArray⟩, .slice A1 a.keys.length c1, .slice D1 a.kids.length d1] 25)) = w7 at *
      have hpr := wprint_walk a _ 41 A1 D1 c1 d1 w7 hT7 hD7 ha7 (Nat.le_refl _) (by omega)
      generalize hX : printM 40 a = X at *
      obtain ⟨fe, t⟩ := X
      have hz : fe = 0 := hz
      have hla : t.length ≤ 16777216 := hla
      subst hz
      have HX := Lib.hid hX
      clear hX
      rw [wpV_zero] at hpr
      have g0 := hB7.cell 0
      have g1 := hB7.cell 1
      have g2 := hB7.cell 2
      have g3 := hB7.cell 3
      have g4 := hB7.cell 4
      simp at g0 g1 g2 g3 g4
      go_wp2_with fail
      refine hpr.mono ?_
      clear hpr g0 g1 g2 g3 g4
      rintro e w8 ⟨rfl, hb8⟩
      have ha8 := ha7.on hb8
      have hB8 := hB7.below hb8 hB7.lt
      have hP := parse_walk t hla w8
      rw [Jp.parse_print HX.out] at hP
      have Hb8 := Lib.hid (Hb7.out.trans (hb8.mono Hb7.out.size))
      clear HX ha7 hB7 hT7 hD7 hb8 Hb7
      go_wp2_with fail
      refine hP.mono ?_
      clear hP
      intro e w9 h9
      obtain ⟨hb9, A2, c2, D2, d2, rfl, hk⟩ := (show Below w8.heap.size w8 w9 ∧ ∃ Ak ck Ad cd, e = .returned (.tuple #[jVal a Ak ck Ad cd, .int .i64 0, .nilIface]) ∧ JInF w9 (fun b => w8.heap.size ≤ b) 41 a Ak ck Ad from h9)
      clear h9
      obtain ⟨hb10, hB10⟩ := box_at w9 #[.int .i64 a.kind, .int .i64 a.num, .string ⟨a.text.toArray⟩, .slice A2 a.keys.length c2, .slice D2 a.kids.length d2]
      obtain ⟨bb, hbb⟩ : ∃ b, b = w9.heap.size := ⟨_, rfl⟩
      rw [← hbb] at hB10
      have hb80 := hb9.trans (hb10.mono hb9.size)
      have hk10 := hk.toIn.on hb10
      have ha10 := ha8.on hb80
      have hBa := hB8.below hb80 hB8.lt
      have Hb10 := Lib.hid (Hb8.out.trans (hb80.mono Hb8.out.size))
      clear hk ha8 hB8 hb9 hb10 hb80 Hb8
      unfold jVal strV
      go_upto_region 12 with fail
      rw [← hbb]
      clear hbb
      generalize (w9.alloc (.cells #[.int .i64 a.kind, .int .i64 a.num, .string ⟨a.text.toArray⟩, .slice A2 a.keys.length c2, .slice D2 a.kids.length d2] 25)) = w10 at *
      have hsm := same_walk 41 41 a A1 D1 A2 D2 c1 d1 c2 d2 w10 (by omega) ha10 hk10
      unfold strV at hsm
      have g0 := hBa.cell 0
      have g1 := hBa.cell 1
      have g2 := hBa.cell 2
      have g3 := hBa.cell 3
      have g4 := hBa.cell 4
      simp at g0 g1 g2 g3 g4
      have e0 := hB10.cell 0
      have e1 := hB10.cell 1
      have e2 := hB10.cell 2
      have e3 := hB10.cell 3
      have e4 := hB10.cell 4
      simp at e0 e1 e2 e3 e4
      go_wp2_with fail
      refine hsm.mono ?_
      clear hsm ha10 hk10 g0 g1 g2 g3 g4 e0 e1 e2 e4 e3
      rintro e w11 ⟨rfl, hb11⟩
      go_wp2_with fail
      go_ret
      exact ⟨rfl, Hb10.out.trans (hb11.mono Hb10.out.size)⟩
end Go.Proofs.YtgpjcjnimheglaaDoor
/-
  WHAT THE ROW's LIST (the tables and errors that package strconv reads) GIVES A WALK; a world that meets it.
-/
namespace Go.Proofs.YtgpjcjnimheglaaDoor
open Go.ChangeShapes Go.WideShapes Go.RowKit

theorem maxL_of {W : World} (h : W.ShapedOpen Tryd.prog) : ∃ m, MaxL W m :=
  Go.Proofs.cell_of_shapedOpen_int (zero := #[.int .i64 0]) (t := 3) h (by decide) (by kernel_rfl) rfl (by kernel_rfl) (by kernel_rfl) Tryd.underlying3

namespace laidW
theorem acc_eq : Rows.laid_unicode_utf8_acceptRanges = Lib.acceptData := by kernel_rfl
theorem first_eq : Rows.laid_unicode_utf8_first = Lib.firstData := Pinned.utf8First_eq
theorem pow_eq : (Rows.laid_internal_strconv_uint64pow10 : DataW Unit) = Lib.tabData .u64 Lib.pow10Tab := by kernel_rfl
theorem tab10_of {l : List (String × DataW Unit)} {W : World} (h : laidMet Tryd.prog (("internal/strconv.uint64pow10", Rows.laid_internal_strconv_uint64pow10) :: l) W) : Tab10 W := by
  rw [pow_eq] at h
  exact Lib.tabIs_of_head (n := 20) g10 (t := 93) (e := 78) (by kernel_rfl) Tryd.underlying93 Tryd.underlying78 (by kernel_rfl) (by kernel_rfl) h

abbrev frameList : List (String × DataW Unit) := [("math/bits.deBruijn32tab", Rows.laid_math_bits_deBruijn32tab), ("math/bits.deBruijn64tab", Rows.laid_math_bits_deBruijn64tab), ("internal/strconv.uint64pow10", Rows.laid_internal_strconv_uint64pow10), ("unicode/utf8.acceptRanges", Rows.laid_unicode_utf8_acceptRanges), ("strconv.ErrRange", Rows.laid_strconv_ErrRange), ("strconv.ErrSyntax", Rows.laid_strconv_ErrSyntax), ("unicode/utf8.first", Rows.laid_unicode_utf8_first)]
theorem frame_of {W : World} (h : laidMetH Tryd.prog frameList W) : Tab10 W :=
  tab10_of (laidMet.tail (laidMet.tail (show laidMet Tryd.prog frameList W from h)))

/-- the cells of an array of integers -/
def litV : DataW Unit → List Value
  | .agg ds => ds.map fun
    | .lit (.int k z) => .int k z
    | _ => .bool false
  | _ => []
/-- A world that meets the condition: the settled one, the variables' cells laid, the errors' blocks behind. -/
noncomputable def frameWorld (os : Os) : World :=
  let w0 := World.holding Tryd.prog os ⟨#[], #[], []⟩
  let put (h : Array Obj) (g : Nat) (cs : Array Value) : Array Obj := h.modify g fun
    | .cells _ t frozen => .cells cs t frozen
    | o => o
  let h1 := put w0.heap 6 (Lib.firstTab.map fun z => Value.int .u8 z).toArray
  let h2 := put h1 7 ((List.range 16).flatMap fun i => [Value.int .u8 (Lib.accLo i), Value.int .u8 (Lib.accHi i)]).toArray
  let h3 := put h2 4 (litV Rows.laid_math_bits_deBruijn32tab).toArray
  let h4 := put h3 5 (litV Rows.laid_math_bits_deBruijn64tab).toArray
  let h5 := put h4 1 (litV Rows.laid_internal_strconv_uint64pow10).toArray
  let n := h5.size
  let h6 := h5.push (.cells #[.string ⟨#[118, 97, 108, 117, 101, 32, 111, 117, 116, 32, 111, 102, 32, 114, 97, 110, 103, 101]⟩] 116)
  let h7 := h6.push (.cells #[.string ⟨#[105, 110, 118, 97, 108, 105, 100, 32, 115, 121, 110, 116, 97, 120]⟩] 116)
  let h8 := put h7 3 #[.iface 114 (.pointer (some ⟨n, 0, none⟩))]
  let h9 := put h8 2 #[.iface 114 (.pointer (some ⟨n + 1, 0, none⟩))]
  { w0 with heap := h9 }
set_option maxRecDepth 100000 in
theorem frame_met (os : Os) (args : Array Value) : laidMetH Tryd.prog frameList ((frameWorld os).forCall (fun _ _ => 0) ⟨#[], args, []⟩).memory := by
  unfold frameList
  rw [acc_eq, first_eq]
  exact (LaidIn.of_run (l := [("math/bits.deBruijn32tab", Rows.laid_math_bits_deBruijn32tab), ("math/bits.deBruijn64tab", Rows.laid_math_bits_deBruijn64tab), ("internal/strconv.uint64pow10", Rows.laid_internal_strconv_uint64pow10), ("unicode/utf8.acceptRanges", Lib.acceptData), ("strconv.ErrRange", Rows.laid_strconv_ErrRange), ("strconv.ErrSyntax", Rows.laid_strconv_ErrSyntax), ("unicode/utf8.first", Lib.firstData)]) (List.range 40) 8 (by kernel_rfl) (by kernel_rfl) (by kernel_rfl) (by kernel_rfl)).met
end laidW
end Go.Proofs.YtgpjcjnimheglaaDoor
/-
  WHAT THE ROW's LIST GIVES A WALK: the table of trailing zeros.
-/
namespace Go.Proofs.YtgpjcjnimheglaaDoor
open Go.ChangeShapes Go.WideShapes Go.RowKit

namespace laidW
def dbTab : List Int := [0, 1, 56, 2, 57, 49, 28, 3, 61, 58, 42, 50, 38, 29, 17, 4, 62, 47, 59, 36, 45, 43, 51, 22, 53, 39, 33, 30, 24, 18, 12, 5, 63, 55, 48, 27, 60, 41, 37, 16, 46, 35, 44, 21, 52, 32, 23, 11, 54, 26, 40, 15, 34, 20, 31, 10, 25, 14, 19, 9, 13, 8, 7, 6]
theorem db_eq : (Rows.laid_math_bits_deBruijn64tab : DataW Unit) = Lib.tabData .u8 dbTab := by kernel_rfl
theorem gD : Tryd.prog.globalNamed "math/bits.deBruijn64tab" = some 5 := by kernel_rfl
theorem db_of {l : List (String × DataW Unit)} {W : World} (h : laidMet Tryd.prog l W) (h1 : ("math/bits.deBruijn64tab", Rows.laid_math_bits_deBruijn64tab) ∈ l) : DB W := by
  obtain ⟨g, t, cs, fuel, p, e1, e2, e3, e4⟩ := Lib.laidMet.reads h h1
  obtain rfl := Option.some.inj (gD.symm.trans e1)
  have e5 : (Tryd.prog.globals[5]?).map (·.type) = some 118 := by kernel_rfl
  obtain rfl := Option.some.inj (e5.symm.trans e2)
  rw [db_eq] at e4
  have hc := Lib.cells_of_tab (n := 64) Tryd.underlying118 Tryd.underlying5 (by kernel_rfl) (by kernel_rfl) e4
  show W.cell? _ = _
  rw [World.var?_cell gD e3 15, ← Array.getElem?_toList, hc]
  rfl
end laidW
end Go.Proofs.YtgpjcjnimheglaaDoor
/-
  WHAT THE ROW's LIST of WireBack GIVES A WALK.
-/
namespace Go.Proofs.YtgpjcjnimheglaaDoor
open Go.ChangeShapes Go.WideShapes Go.RowKit

namespace laidW
theorem back_of {W : World} (h : laidMetH Tryd.prog frameList W) : Tab10 W ∧ DB W :=
  ⟨frame_of h, db_of (l := frameList) (show laidMet Tryd.prog frameList W from h) (by simp [frameList])⟩
end laidW
end Go.Proofs.YtgpjcjnimheglaaDoor
