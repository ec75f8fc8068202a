/-
  READING A VALUE OF A MESSAGE, plainly: what is read, and where it ends; or where it is wrong, and how.
-/
import Derived.Test.YtgpjcjnimheglaaGreatDoorPM
namespace Go.Proofs.YtgpjcjnimheglaaGreatDoor.Jp

/-- what a reading comes to -/
inductive Rs (α : Type) where
  | ok (a : α) (at_ : Nat)
  | bad (at_ err : Nat)

def blankB (b : UInt8) : Bool := b == 32 || b == 9 || b == 13 || b == 10
def skipP (s : List UInt8) (i : Nat) : Nat := i + ((s.drop i).takeWhile blankB).length
def needP (s : List UInt8) (c : UInt8) (i : Nat) : Rs Unit := if s[skipP s i]? = some c then .ok () (skipP s i + 1) else .bad (skipP s i) 3

def digB (b : UInt8) : Bool := decide (48 ≤ b.toNat) && decide (b.toNat ≤ 57)
/-- where the digits end -/
def digP (s : List UInt8) (i : Nat) : Nat := i + ((s.drop i).takeWhile digB).length
/-- the number of some digits -/
def valN (l : List UInt8) : Nat := l.foldl (fun n b => n * 10 + (b.toNat - 48)) 0
def firstP (s : List UInt8) (i : Nat) : Nat := if s[i]? = some 45 then i + 1 else i
def numV (s : List UInt8) (i : Nat) : Int := if s[i]? = some 45 then -(valN ((s.drop (i + 1)).takeWhile digB) : Int) else valN ((s.drop i).takeWhile digB)
def numP (s : List UInt8) (i : Nat) : Rs Int :=
  if digP s (firstP s i) = firstP s i then .bad (firstP s i) 3
  else if 18 < digP s (firstP s i) - firstP s i ∨ (1 < digP s (firstP s i) - firstP s i ∧ s[firstP s i]? = some 48) then .bad i 3
  else .ok (numV s i) (digP s (firstP s i))

def hex4 : List UInt8 → Option Nat
  | a :: b :: c :: d :: _ => match Lx.hexV a, Lx.hexV b, Lx.hexV c, Lx.hexV d with
    | some x, some y, some z, some t => some (((x * 16 + y) * 16 + z) * 16 + t)
    | _, _, _, _ => none
  | _ => none
def fourP (s : List UInt8) (i : Nat) : Option Nat := hex4 (s.drop i)
/-- what a sign stands for behind the one that escapes -/
def simP (c : UInt8) : Option UInt8 :=
  if c = 34 then some 34 else if c = 92 then some 92 else if c = 47 then some 47 else if c = 98 then some 8 else if c = 102 then some 12 else if c = 110 then some 10 else if c = 114 then some 13 else if c = 116 then some 9 else none
/-- the second half of a character of two -/
def lowP (s : List UInt8) (i h : Nat) : Rs (List UInt8) :=
  if s[i + 6]? = some 92 ∧ s[i + 7]? = some 117 then
    match fourP s (i + 8) with
    | some l => if 56320 ≤ l ∧ l ≤ 57343 then .ok (Lx.enc (65536 + (h - 55296) * 1024 + (l - 56320))) (i + 12) else .bad i 3
    | none => .bad i 3
  else .bad i 3
def uniP (s : List UInt8) (i : Nat) : Rs (List UInt8) :=
  match fourP s (i + 2) with
  | none => .bad i 3
  | some h => if 56320 ≤ h ∧ h ≤ 57343 then .bad i 3 else if h < 55296 ∨ 57343 < h then .ok (Lx.enc h) (i + 6) else lowP s i h
/-- an escape -/
def escP (s : List UInt8) (i : Nat) : Rs (List UInt8) :=
  match s[i + 1]? with
  | none => .bad i 3
  | some c => match simP c with
    | some b => .ok [b] (i + 2)
    | none => if c = 117 then uniP s i else .bad i 3
/-- the rest of a text -/
def txtF (s : List UInt8) : Nat → Nat → List UInt8 → Rs (List UInt8)
  | 0, i, _ => .bad i 3
  | f + 1, i, acc =>
    match s[i]? with
    | none => .bad i 3
    | some c =>
      if c.toNat < 32 then .bad i 3
      else if c = 34 then .ok acc (i + 1)
      else if c = 92 then
        match escP s i with
        | .bad p e => .bad p e
        | .ok b k => txtF s f k (acc ++ b)
      else txtF s f (i + 1) (acc ++ [c])
/-- a text, from its sign on -/
def txtP (s : List UInt8) (i : Nat) : Rs (List UInt8) := txtF s (s.length + 1) i []
def textP (s : List UInt8) (i : Nat) : Rs (List UInt8) :=
  match needP s 34 i with
  | .bad p e => .bad p e
  | .ok _ k => txtP s k
def wordP (s w : List UInt8) (j : JT) (i : Nat) : Rs JT := if w.isPrefixOf (s.drop i) then .ok j (i + w.length) else .bad i 3

/-- what stands in a list or a map, behind its sign -/
def manyF {σ : Type} (one : σ → Nat → Rs σ) (e : UInt8) (s : List UInt8) : Nat → σ → Nat → Rs σ
  | 0, _, i => .bad i 3
  | f + 1, st, i =>
    match one st i with
    | .bad p er => .bad p er
    | .ok st' k => if s[skipP s k]? = some 44 then manyF one e s f st' (skipP s k + 1) else if s[skipP s k]? = some e then .ok st' (skipP s k + 1) else .bad (skipP s k) 3
def itemsP {σ : Type} (one : σ → Nat → Rs σ) (e : UInt8) (s : List UInt8) (st : σ) (i : Nat) : Rs σ :=
  if s[skipP s (i + 1)]? = some e then .ok st (skipP s (i + 1) + 1) else manyF one e s (s.length + 1) st (skipP s (i + 1))
abbrev KK := List (List UInt8) × List JT
def oneL (val : Nat → Rs JT) (st : KK) (i : Nat) : Rs KK :=
  match val i with
  | .bad p e => .bad p e
  | .ok j k => .ok (st.1, st.2 ++ [j]) k
def oneM (s : List UInt8) (val : Nat → Rs JT) (st : KK) (i : Nat) : Rs KK :=
  match textP s (skipP s i) with
  | .bad p e => .bad p e
  | .ok key k =>
    if key ∈ st.1 then .bad (skipP s i) 5
    else match needP s 58 k with
      | .bad p e => .bad p e
      | .ok _ k2 => match val k2 with
        | .bad p e => .bad p e
        | .ok j k3 => .ok (st.1 ++ [key], st.2 ++ [j]) k3
def wN : List UInt8 := [110, 117, 108, 108]
def wT : List UInt8 := [116, 114, 117, 101]
def wF : List UInt8 := [102, 97, 108, 115, 101]
def listP (r : Rs KK) (kind : Int) : Rs JT :=
  match r with
  | .bad p e => .bad p e
  | .ok st k => .ok (.mk kind 0 [] st.1 st.2) k
/-- a value that stands in so many others, from its first byte on -/
def valP (s : List UInt8) (more : Nat → Rs JT) (d : Nat) (c : UInt8) (k : Nat) : Rs JT :=
  if 40 ≤ d ∧ (c = 91 ∨ c = 123) then .bad k 12
  else if c = 110 then wordP s wN (.mk 0 0 [] [] []) k
  else if c = 116 then wordP s wT (.mk 1 1 [] [] []) k
  else if c = 102 then wordP s wF (.mk 1 0 [] [] []) k
  else if c = 34 then
    match textP s k with
    | .bad p e => .bad p e
    | .ok t e => .ok (.mk 3 0 t [] []) e
  else if c = 45 ∨ digB c = true then
    match numP s k with
    | .bad p e => .bad p e
    | .ok n e => .ok (.mk 2 n [] [] []) e
  else if c = 91 then listP (itemsP (oneL more) 93 s ([], []) k) 4
  else if c = 123 then listP (itemsP (oneM s more) 125 s ([], []) k) 5
  else .bad k 3
def valF (s : List UInt8) : Nat → Nat → Nat → Rs JT
  | 0, _, i => .bad i 3
  | f + 1, d, i =>
    match s[skipP s i]? with
    | none => .bad (skipP s i) 3
    | some c => valP s (valF s f (d + 1)) d c (skipP s i)
/-- the value that a text is -/
def parseP (s : List UInt8) : Rs JT :=
  match valF s 41 0 0 with
  | .bad p e => .bad p e
  | .ok j k => if skipP s k < s.length then .bad (skipP s k) 3 else .ok j 0

theorem skip_ge (s : List UInt8) (i : Nat) : i ≤ skipP s i := by unfold skipP; omega
theorem skip_le (s : List UInt8) (i : Nat) (h : i ≤ s.length) : skipP s i ≤ s.length := by
  unfold skipP
  have := (List.takeWhile_prefix blankB (l := s.drop i)).length_le
  rw [List.length_drop] at this
  omega
theorem skip_go (s : List UInt8) (i : Nat) (h : i < s.length) (hb : blankB s[i] = true) : skipP s i = skipP s (i + 1) := by
  unfold skipP
  rw [List.drop_eq_getElem_cons h, List.takeWhile_cons, if_pos hb, List.length_cons]
  omega
theorem skip_stop (s : List UInt8) (i : Nat) (h : i < s.length) (hb : blankB s[i] = false) : skipP s i = i := by
  unfold skipP
  rw [List.drop_eq_getElem_cons h, List.takeWhile_cons, if_neg (by simp [hb])]
  simp
theorem skip_end (s : List UInt8) (i : Nat) (h : s.length ≤ i) : skipP s i = i := by
  unfold skipP
  rw [List.drop_of_length_le h]
  simp
theorem skip_skip (s : List UInt8) : ∀ (n i : Nat), s.length - i ≤ n → skipP s (skipP s i) = skipP s i
  | 0, i, h => by rw [skip_end s i (by omega)]; exact skip_end s i (by omega)
  | n + 1, i, h => by
    by_cases hi : i < s.length
    · cases hb : blankB s[i] with
      | true => rw [skip_go s i hi hb]; exact skip_skip s n (i + 1) (by omega)
      | false => rw [skip_stop s i hi hb]; exact skip_stop s i hi hb
    · rw [skip_end s i (by omega)]; exact skip_end s i (by omega)
theorem get_skip_not (s : List UInt8) (i : Nat) (c : UInt8) (h : s[i]? = some c) (hb : blankB c = false) : skipP s i = i := by
  obtain ⟨hi, rfl⟩ := List.getElem?_eq_some_iff.1 h
  exact skip_stop s i hi hb
theorem get_lt {s : List UInt8} {i : Nat} {c : UInt8} (h : s[i]? = some c) : i < s.length := (List.getElem?_eq_some_iff.1 h).1

/-- an answer lies ahead, and within -/
def Rs.Ahead {α : Type} (r : Rs α) (i n : Nat) : Prop :=
  match r with
  | .ok _ k => i < k ∧ k ≤ n
  | .bad p _ => i ≤ p ∧ p ≤ n
theorem need_ahead (s : List UInt8) (c : UInt8) (i : Nat) (h : i ≤ s.length) : (needP s c i).Ahead i s.length := by
  have h1 := skip_ge s i
  have h2 := skip_le s i h
  unfold needP
  split
  · rename_i he
    have := get_lt he
    exact ⟨by omega, by omega⟩
  · exact ⟨h1, h2⟩
theorem dig_ge (s : List UInt8) (i : Nat) : i ≤ digP s i := by unfold digP; omega
theorem dig_le (s : List UInt8) (i : Nat) (h : i ≤ s.length) : digP s i ≤ s.length := by
  unfold digP
  have := (List.takeWhile_prefix digB (l := s.drop i)).length_le
  rw [List.length_drop] at this
  omega
theorem first_le (s : List UInt8) (i : Nat) (h : i ≤ s.length) : i ≤ firstP s i ∧ firstP s i ≤ s.length := by
  unfold firstP
  split
  · rename_i he
    have := get_lt he
    omega
  · omega
theorem num_ahead (s : List UInt8) (i : Nat) (h : i ≤ s.length) : (numP s i).Ahead i s.length := by
  have h1 := first_le s i h
  have h2 := dig_ge s (firstP s i)
  have h3 := dig_le s (firstP s i) h1.2
  unfold numP
  split
  · exact ⟨by omega, by omega⟩
  · split
    · exact ⟨by omega, by omega⟩
    · exact ⟨by omega, by omega⟩
theorem hex4_len {l : List UInt8} {n : Nat} (h : hex4 l = some n) : 4 ≤ l.length := by
  match l, h with
  | [], h => simp [hex4] at h
  | [_], h => simp [hex4] at h
  | [_, _], h => simp [hex4] at h
  | [_, _, _], h => simp [hex4] at h
  | _ :: _ :: _ :: _ :: _, _ => simp
theorem four_len {s : List UInt8} {i n : Nat} (h : fourP s i = some n) : i + 4 ≤ s.length := by
  have := hex4_len h
  rw [List.length_drop] at this
  omega
theorem low_ahead (s : List UInt8) (i h : Nat) (hi : i + 1 < s.length) : (lowP s i h).Ahead i s.length := by
  unfold lowP
  split
  · split
    · rename_i l hl
      have := four_len hl
      split
      · exact ⟨by omega, by omega⟩
      · exact ⟨by omega, by omega⟩
    · exact ⟨by omega, by omega⟩
  · exact ⟨by omega, by omega⟩
theorem uni_ahead (s : List UInt8) (i : Nat) (hi : i + 1 < s.length) : (uniP s i).Ahead i s.length := by
  unfold uniP
  split
  · exact ⟨by omega, by omega⟩
  · rename_i h hh
    have := four_len hh
    split
    · exact ⟨by omega, by omega⟩
    · split
      · exact ⟨by omega, by omega⟩
      · exact low_ahead s i h hi
theorem esc_ahead (s : List UInt8) (i : Nat) (hi : i < s.length) : (escP s i).Ahead i s.length := by
  unfold escP
  split
  · exact ⟨by omega, by omega⟩
  · rename_i c hc
    have := get_lt hc
    split
    · exact ⟨by omega, by omega⟩
    · split
      · exact uni_ahead s i this
      · exact ⟨by omega, by omega⟩
theorem txt_ahead (s : List UInt8) : ∀ (f i : Nat) (acc : List UInt8), i ≤ s.length → (txtF s f i acc).Ahead i s.length
  | 0, i, acc, h => ⟨by omega, by omega⟩
  | f + 1, i, acc, h => by
    unfold txtF
    split
    · exact ⟨by omega, by omega⟩
    · rename_i c hc
      have hl := get_lt hc
      split
      · exact ⟨by omega, by omega⟩
      · split
        · exact ⟨by omega, by omega⟩
        · split
          · have he := esc_ahead s i hl
            split
            · rename_i p e hp; rw [hp] at he; exact he
            · rename_i b k hp
              rw [hp] at he
              have := txt_ahead s f k (acc ++ b) he.2
              revert this
              cases txtF s f k (acc ++ b) <;> intro h4
              · exact ⟨by have := he.1; have := h4.1; omega, h4.2⟩
              · exact ⟨by have := he.1; have := h4.1; omega, h4.2⟩
          · have := txt_ahead s f (i + 1) (acc ++ [c]) (by omega)
            revert this
            cases txtF s f (i + 1) (acc ++ [c]) <;> intro h4
            · exact ⟨by have := h4.1; omega, h4.2⟩
            · exact ⟨by have := h4.1; omega, h4.2⟩
/-- more fuel is no other answer -/
theorem txt_fuel (s : List UInt8) : ∀ (f g i : Nat) (acc : List UInt8), s.length + 1 ≤ f + i → s.length + 1 ≤ g + i → i ≤ s.length → txtF s f i acc = txtF s g i acc
  | 0, _, i, _, h, _, h3 => by omega
  | _ + 1, 0, i, _, _, h, h3 => by omega
  | f + 1, g + 1, i, acc, h1, h2, h3 => by
    unfold txtF
    split
    · rfl
    · rename_i c hc
      have hl := get_lt hc
      split
      · rfl
      · split
        · rfl
        · split
          · have he := esc_ahead s i hl
            split
            · rfl
            · rename_i b k hp
              rw [hp] at he
              obtain ⟨h5, h6⟩ := he
              exact txt_fuel s f g k (acc ++ b) (by omega) (by omega) h6
          · exact txt_fuel s f g (i + 1) (acc ++ [c]) (by omega) (by omega) (by omega)
theorem text_ahead (s : List UInt8) (i : Nat) (h : i ≤ s.length) : (textP s i).Ahead i s.length := by
  have h1 := need_ahead s 34 i h
  unfold textP
  split
  · rename_i p e hp; rw [hp] at h1; exact h1
  · rename_i k hp
    rw [hp] at h1
    obtain ⟨h2, h3⟩ := h1
    have := txt_ahead s (s.length + 1) k [] h3
    unfold txtP
    revert this
    cases txtF s (s.length + 1) k [] <;> intro h4
    · exact ⟨by have := h4.1; omega, h4.2⟩
    · exact ⟨by have := h4.1; omega, h4.2⟩
theorem word_ahead (s w : List UInt8) (j : JT) (i : Nat) (h : i ≤ s.length) (hw : 0 < w.length) : (wordP s w j i).Ahead i s.length := by
  unfold wordP
  split
  · rename_i hp
    have := (List.isPrefixOf_iff_prefix.1 hp).length_le
    rw [List.length_drop] at this
    exact ⟨by omega, by omega⟩
  · exact ⟨by omega, by omega⟩
theorem many_ahead {σ : Type} {one : σ → Nat → Rs σ} {e : UInt8} {s : List UInt8} (ho : ∀ st i, i ≤ s.length → (one st i).Ahead i s.length) : ∀ (f : Nat) (st : σ) (i : Nat), i ≤ s.length → (manyF one e s f st i).Ahead i s.length
  | 0, st, i, h => ⟨by omega, by omega⟩
  | f + 1, st, i, h => by
    have h1 := ho st i h
    unfold manyF
    split
    · rename_i p er hp; rw [hp] at h1; exact h1
    · rename_i st' k hp
      rw [hp] at h1
      obtain ⟨h2, h3⟩ := h1
      have h4 := skip_ge s k
      have h5 := skip_le s k h3
      split
      · rename_i hc
        have h6 := get_lt hc
        have := many_ahead (e := e) ho f st' (skipP s k + 1) (by omega)
        revert this
        cases manyF one e s f st' (skipP s k + 1) <;> intro h4
        · exact ⟨by have := h4.1; omega, h4.2⟩
        · exact ⟨by have := h4.1; omega, h4.2⟩
      · split
        · rename_i hc
          have h6 := get_lt hc
          exact ⟨by omega, by omega⟩
        · exact ⟨by omega, by omega⟩
theorem items_ahead {σ : Type} {one : σ → Nat → Rs σ} {e : UInt8} {s : List UInt8} (ho : ∀ st i, i ≤ s.length → (one st i).Ahead i s.length) (st : σ) (i : Nat) (h : i < s.length) : (itemsP one e s st i).Ahead i s.length := by
  have h4 := skip_ge s (i + 1)
  have h5 := skip_le s (i + 1) (by omega)
  unfold itemsP
  split
  · rename_i hc
    have h6 := get_lt hc
    exact ⟨by omega, by omega⟩
  · have := many_ahead (e := e) ho (s.length + 1) st (skipP s (i + 1)) h5
    revert this
    cases manyF one e s (s.length + 1) st (skipP s (i + 1)) <;> intro h4
    · exact ⟨by have := h4.1; omega, h4.2⟩
    · exact ⟨by have := h4.1; omega, h4.2⟩
theorem oneL_ahead {s : List UInt8} {val : Nat → Rs JT} (hv : ∀ i, i ≤ s.length → (val i).Ahead i s.length) (st : KK) (i : Nat) (h : i ≤ s.length) : (oneL val st i).Ahead i s.length := by
  have h1 := hv i h
  unfold oneL
  split
  · rename_i p e hp; rw [hp] at h1; exact h1
  · rename_i j k hp; rw [hp] at h1; exact h1
theorem oneM_ahead {s : List UInt8} {val : Nat → Rs JT} (hv : ∀ i, i ≤ s.length → (val i).Ahead i s.length) (st : KK) (i : Nat) (h : i ≤ s.length) : (oneM s val st i).Ahead i s.length := by
  have h4 := skip_ge s i
  have h5 := skip_le s i h
  have h1 := text_ahead s (skipP s i) h5
  unfold oneM
  split
  · rename_i p e hp
    rw [hp] at h1
    exact ⟨by have := h1.1; omega, h1.2⟩
  · rename_i key k hp
    rw [hp] at h1
    obtain ⟨h2, h3⟩ := h1
    split
    · exact ⟨by omega, by omega⟩
    · have h6 := need_ahead s 58 k h3
      split
      · rename_i p e hp2
        rw [hp2] at h6
        exact ⟨by have := h6.1; omega, h6.2⟩
      · rename_i k2 hp2
        rw [hp2] at h6
        obtain ⟨h7, h8⟩ := h6
        have h9 := hv k2 h8
        split
        · rename_i p e hp3
          rw [hp3] at h9
          exact ⟨by have := h9.1; omega, h9.2⟩
        · rename_i j k3 hp3
          rw [hp3] at h9
          exact ⟨by have := h9.1; omega, h9.2⟩
theorem list_ahead {r : Rs KK} {kind : Int} {i n : Nat} (h : r.Ahead i n) : (listP r kind).Ahead i n := by
  cases r <;> exact h
theorem val_ahead (s : List UInt8) : ∀ (f d i : Nat), i ≤ s.length → (valF s f d i).Ahead i s.length
  | 0, d, i, h => ⟨by omega, by omega⟩
  | f + 1, d, i, h => by
    have h4 := skip_ge s i
    have h5 := skip_le s i h
    unfold valF
    split
    · exact ⟨by omega, by omega⟩
    · rename_i c hc
      have hl := get_lt hc
      have key : (valP s (valF s f (d + 1)) d c (skipP s i)).Ahead (skipP s i) s.length := by
        unfold valP
        split
        · exact ⟨by omega, by omega⟩
        split
        · exact word_ahead _ _ _ _ h5 (by decide)
        split
        · exact word_ahead _ _ _ _ h5 (by decide)
        split
        · exact word_ahead _ _ _ _ h5 (by decide)
        split
        · have h1 := text_ahead s (skipP s i) h5
          split
          · rename_i p e hp; rw [hp] at h1; exact h1
          · rename_i t e hp; rw [hp] at h1; exact h1
        split
        · have h1 := num_ahead s (skipP s i) h5
          split
          · rename_i p e hp; rw [hp] at h1; exact h1
          · rename_i t e hp; rw [hp] at h1; exact h1
        split
        · exact list_ahead (items_ahead (oneL_ahead (val_ahead s f (d + 1))) _ _ hl)
        split
        · exact list_ahead (items_ahead (oneM_ahead (val_ahead s f (d + 1))) _ _ hl)
        · exact ⟨by omega, by omega⟩
      revert key
      cases valP s (valF s f (d + 1)) d c (skipP s i) <;> intro h6
      · exact ⟨by have := h6.1; omega, h6.2⟩
      · exact ⟨by have := h6.1; omega, h6.2⟩
theorem many_fuel {σ : Type} {one : σ → Nat → Rs σ} {e : UInt8} {s : List UInt8} (ho : ∀ st i, i ≤ s.length → (one st i).Ahead i s.length) : ∀ (f g : Nat) (st : σ) (i : Nat), s.length + 1 ≤ f + i → s.length + 1 ≤ g + i → i ≤ s.length → manyF one e s f st i = manyF one e s g st i
  | 0, _, _, i, h, _, h3 => by omega
  | _ + 1, 0, _, i, _, h, h3 => by omega
  | f + 1, g + 1, st, i, h1, h2, h3 => by
    have h4 := ho st i h3
    unfold manyF
    split
    · rfl
    · rename_i st' k hp
      rw [hp] at h4
      obtain ⟨h5, h6⟩ := h4
      have h7 := skip_ge s k
      split
      · rename_i hc
        have h8 := get_lt hc
        exact many_fuel ho f g st' (skipP s k + 1) (by omega) (by omega) (by omega)
      · rfl
end Go.Proofs.YtgpjcjnimheglaaGreatDoor.Jp
