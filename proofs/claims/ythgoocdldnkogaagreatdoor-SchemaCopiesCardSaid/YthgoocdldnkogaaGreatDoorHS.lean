import Derived.Test.YthgoocdldnkogaaGreatDoorHR1
import Derived.Test.YthgoocdldnkogaaGreatDoorHRh
import Derived.Test.YthgoocdldnkogaaGreatDoorHZ1
namespace Go.Proofs.YthgoocdldnkogaaGreatDoor
set_option linter.unusedVariables false
set_option linter.unusedSimpArgs false
open Go.RowKit
abbrev Bs := List UInt8
structure Sys (σ : Type) where
 live : Bs → σ
 dead : σ → Prop
 small : σ → Prop
structure Sim {σ α : Type} (S : Sys σ) (ok : α → Prop) (f : σ → α × σ) (g : Bs → Option (α × Bs)) : Prop where
 good : ∀ b x r, S.small (S.live b) → g b = some (x, r) → f (S.live b) = (x, S.live r)
 bad : ∀ b, S.small (S.live b) → g b = none → S.dead (f (S.live b)).2
 stay : ∀ t, S.small t → S.dead t → S.dead (f t).2
 small : ∀ t, S.small t → S.small (f t).2
 val : ∀ t, S.small t → ok (f t).1
def sq {σ α β : Type} (f : σ → α × σ) (h : α → σ → β × σ) : σ → β × σ := fun t => h (f t).1 (f t).2
def un {σ α : Type} (x : α) : σ → α × σ := fun t => (x, t)
def bd {α β : Type} (g : Bs → Option (α × Bs)) (k : α → Bs → Option β) : Bs → Option β := fun b => (g b).bind fun p => k p.1 p.2
def rt {α : Type} (x : α) : Bs → Option (α × Bs) := fun b => some (x, b)
theorem bd_rt {α β : Type} (x : α) (k : α → Bs → Option β) : bd (rt x) k = k x := rfl
theorem bd_assoc {α β γ : Type} (g : Bs → Option (α × Bs)) (k : α → Bs → Option (β × Bs)) (h : β → Bs → Option γ) : bd (bd g k) h = bd g fun x => bd (k x) h := by
 funext b
 simp only [bd]
 cases g b <;> rfl
theorem bd_id {α : Type} (g : Bs → Option (α × Bs)) : bd g rt = g := by
 funext b
 simp only [bd, rt]
 cases g b <;> rfl
theorem Sim.bind {σ α β : Type} {S : Sys σ} {ok : α → Prop} {ok2 : β → Prop} {f : σ → α × σ} {g : Bs → Option (α × Bs)} {h : α → σ → β × σ} {k : α → Bs → Option (β × Bs)}
  (a : Sim S ok f g) (c : ∀ x, ok x → Sim S ok2 (h x) (k x)) : Sim S ok2 (sq f h) (bd g k) where
 good b x r hs e := by
  simp only [bd] at e
  cases hg : g b with
  | none => rw [hg] at e; cases e
  | some p =>
   rw [hg] at e
   have h1 := a.good b p.1 p.2 hs hg
   have h2 := a.val _ hs
   have h3 := a.small _ hs
   rw [h1] at h2 h3
   have := (c p.1 h2).good p.2 x r h3 e
   simp only [sq, h1]
   exact this
 bad b hs e := by
  simp only [bd] at e
  have h2 := a.val _ hs
  have h3 := a.small _ hs
  cases hg : g b with
  | none => exact (c _ h2).stay _ h3 (a.bad b hs hg)
  | some p =>
   rw [hg] at e
   have h1 := a.good b p.1 p.2 hs hg
   rw [h1] at h2 h3
   simp only [sq, h1]
   exact (c p.1 h2).bad p.2 h3 e
 stay t hs hd := (c _ (a.val t hs)).stay _ (a.small t hs) (a.stay t hs hd)
 small t hs := (c _ (a.val t hs)).small _ (a.small t hs)
 val t hs := (c _ (a.val t hs)).val _ (a.small t hs)
theorem Sim.pure {σ α : Type} {S : Sys σ} {ok : α → Prop} (x : α) (hx : ok x) : Sim S ok (un x) (rt x) where
 good b y r _ e := by
  simp only [rt, Option.some.injEq, Prod.mk.injEq] at e
  obtain ⟨rfl, rfl⟩ := e; rfl
 bad b _ e := by cases e
 stay t _ h := h
 small t h := h
 val t _ := hx
theorem Sim.mono {σ α : Type} {S : Sys σ} {ok ok2 : α → Prop} {f : σ → α × σ} {g : Bs → Option (α × Bs)} (a : Sim S ok f g) (h : ∀ x, ok x → ok2 x) : Sim S ok2 f g where
 good := a.good
 bad := a.bad
 stay := a.stay
 small := a.small
 val t hs := h _ (a.val t hs)
def sN {α : Type} (g : Bs → Option (α × Bs)) : Nat → Bs → Option (List α × Bs)
 | 0 => rt []
 | n + 1 => bd g fun x => bd (sN g n) fun l => rt (x :: l)
def mnL {σ α : Type} (okb : σ → Bool) (f : σ → α × σ) : Nat → List α → σ → List α × σ
 | 0, acc, t => (acc, t)
 | n + 1, acc, t => if okb t = true then mnL okb f n (acc ++ [(f t).1]) (f t).2 else ([], t)
theorem Sim.mnL {σ α : Type} {S : Sys σ} {ok : α → Prop} {okb : σ → Bool} {f : σ → α × σ} {g : Bs → Option (α × Bs)} (hb : ∀ b, okb (S.live b) = true) (a : Sim S ok f g) :
  ∀ (n : Nat) (acc : List α), (∀ x ∈ acc, ok x) → Sim S (fun l => l.length ≤ acc.length + n ∧ ∀ x ∈ l, ok x) (mnL okb f n acc) (bd (sN g n) fun l => rt (acc ++ l))
 | 0, acc, hacc => by
  have e : bd (sN g 0) (fun l => rt (acc ++ l)) = rt acc := by rw [sN, bd_rt, List.append_nil]
  rw [e]
  exact Sim.pure (S := S) acc ⟨Nat.le_refl _, hacc⟩
 | n + 1, acc, hacc => by
  have ih := fun x (hx : ok x) => Sim.mnL hb a n (acc ++ [x]) (fun y hy => by
   rcases List.mem_append.1 hy with h | h
   ·exact hacc y h
   ·rw [List.mem_singleton.1 h]; exact hx)
  have ec : bd (sN g (n + 1)) (fun l => rt (acc ++ l)) = bd g fun x => bd (sN g n) fun l => rt (acc ++ [x] ++ l) := by
   rw [sN, bd_assoc]
   congr 1; funext x
   rw [bd_assoc]
   congr 1; funext l
   rw [bd_rt, List.append_assoc]; rfl
  have B := a.bind (ok2 := fun l => l.length ≤ acc.length + (n + 1) ∧ ∀ x ∈ l, ok x) (h := fun x => Go.Proofs.YthgoocdldnkogaaGreatDoor.mnL okb f n (acc ++ [x])) (k := fun x => bd (sN g n) fun l => rt (acc ++ [x] ++ l)) fun x hx => (ih x hx).mono fun l hl => ⟨by
   have := hl.1
   simp only [List.length_append, List.length_cons, List.length_nil] at this
   omega, hl.2⟩
  rw [ec]
  refine ⟨fun b x r hs e => ?_, fun b hs e => ?_, fun t hs hd => ?_, fun t hs => ?_, fun t hs => ?_⟩
  ·have := B.good b x r hs e
   simp only [Go.Proofs.YthgoocdldnkogaaGreatDoor.mnL, hb b, if_true]
   exact this
  ·have := B.bad b hs e
   simp only [Go.Proofs.YthgoocdldnkogaaGreatDoor.mnL, hb b, if_true]
   exact this
  ·simp only [Go.Proofs.YthgoocdldnkogaaGreatDoor.mnL]
   split
   ·exact B.stay t hs hd
   ·exact hd
  ·simp only [Go.Proofs.YthgoocdldnkogaaGreatDoor.mnL]
   split
   ·exact B.small t hs
   ·exact hs
  ·simp only [Go.Proofs.YthgoocdldnkogaaGreatDoor.mnL]
   split
   ·exact B.val t hs
   ·exact ⟨by simp, fun x hx => by cases hx⟩
def Kt {σ R : Type} (S : Sys σ) (t : σ) (k : Bs → Option R) (tot : Option R) : Prop := S.small t ∧ ((S.dead t ∧ tot = none) ∨ ∃ b, t = S.live b ∧ tot = k b)
theorem Kt.step {σ α R : Type} {S : Sys σ} {ok : α → Prop} {f : σ → α × σ} {g : Bs → Option (α × Bs)} {t : σ} {k : α → Bs → Option R} {tot : Option R} (a : Sim S ok f g) (h : Kt S t (bd g k) tot) :
  Kt S (f t).2 (k (f t).1) tot ∧ ok (f t).1 := by
 obtain ⟨hs, h⟩ := h
 refine ⟨⟨a.small t hs, ?_⟩, a.val t hs⟩
 rcases h with ⟨hd, e⟩ | ⟨b, rfl, e⟩
 ·exact .inl ⟨a.stay t hs hd, e⟩
 ·cases hg : g b with
  | none => exact .inl ⟨a.bad b hs hg, by rw [e]; simp only [bd, hg]; rfl⟩
  | some p =>
   right
   rw [a.good b p.1 p.2 hs hg]
   exact ⟨p.2, rfl, by rw [e]; simp only [bd, hg]; rfl⟩
def kL {α R : Type} (g : Bs → Option (α × Bs)) (k : List α → Bs → Option R) (n : Int) (acc : List α) : Bs → Option R := fun b => if n < 0 then none else bd (sN g n.toNat) (fun l => k (acc ++ l)) b
theorem Kt.neg {σ α R : Type} {S : Sys σ} {t : σ} {g : Bs → Option (α × Bs)} {k : List α → Bs → Option R} {n : Int} {acc : List α} {tot : Option R} (h : Kt S t (kL g k n acc) tot) (hn : n < 0) : tot = none := by
 rcases h.2 with ⟨_, e⟩ | ⟨b, _, e⟩
 ·exact e
 ·rw [e]; simp [kL, hn]
def Eats {α : Type} (g : Bs → Option (α × Bs)) : Prop := ∀ b x r, g b = some (x, r) → r.length < b.length
def Eats0 {α : Type} (g : Bs → Option (α × Bs)) : Prop := ∀ b x r, g b = some (x, r) → r.length ≤ b.length
theorem Eats.bind {α β : Type} {g : Bs → Option (α × Bs)} {k : α → Bs → Option (β × Bs)} (h : Eats g) (hk : ∀ x, Eats0 (k x)) : Eats (bd g k) := fun b x r e => by
 obtain ⟨p, e1, e2⟩ := Option.bind_eq_some_iff.1 e
 have := h b p.1 p.2 e1
 have := hk p.1 p.2 x r e2
 omega
theorem Eats0.bind {α β : Type} {g : Bs → Option (α × Bs)} {k : α → Bs → Option (β × Bs)} (h : Eats0 g) (hk : ∀ x, Eats0 (k x)) : Eats0 (bd g k) := fun b x r e => by
 obtain ⟨p, e1, e2⟩ := Option.bind_eq_some_iff.1 e
 have := h b p.1 p.2 e1
 have := hk p.1 p.2 x r e2
 omega
theorem Eats0.pure {α : Type} (x : α) : Eats0 (rt x) := fun b y r e => by
 simp only [rt, Option.some.injEq, Prod.mk.injEq] at e
 rw [e.2]; exact Nat.le_refl _
def sNum : Bs → Option (Int × Bs) := rnum
def sText : Bs → Option (ByteArray × Bs) := fun b => (rtextS (some b)).2.map fun r => (str (rtextS (some b)).1, r)
def sFlag : Bs → Option (Bool × Bs) := fun b => (rnum b).bind fun p => if p.1 < 0 ∨ 1 < p.1 then none else some (p.1 == 1, p.2)
def sCnt (most : Int) : Bs → Option (Int × Bs) := fun b => (rnum b).bind fun p => if p.1 < 0 ∨ most < p.1 then none else some p
def sMany {α : Type} (most : Int) (g : Bs → Option (α × Bs)) : Bs → Option (List α × Bs) := bd (sCnt most) fun n => sN g n.toNat
def dftOf (t : ByteArray) : Option ValS := match parseS t.data.toList with
 | some [] => some vZ
 | some [c] => if c.col = 0 then some c.v else none
 | _ => none
def sDft : Bs → Option (ValS × Bs) := bd sText fun t b => (dftOf t).map fun v => (v, b)
theorem sNum_num (n : Int) (h1 : -9223372036854775808 ≤ n) (h2 : n ≤ 9223372036854775807) (r : Bs) : sNum (num n ++ r) = some (n, r) := rnum_num n h1 h2 r
theorem sText_txt (s : ByteArray) (h : s.size ≤ 9223372036854775807) (r : Bs) : sText (txt s ++ r) = some (s, r) := by
 simp only [sText, rtextS_txt s h r]; rfl
theorem sFlag_num (x : Bool) (r : Bs) : sFlag (num (if x = true then 1 else 0) ++ r) = some (x, r) := by
 cases x
 ·simp only [sFlag, rnum_num 0 (by omega) (by omega) r, if_false, Bool.false_eq_true]; rfl
 ·simp only [sFlag, rnum_num 1 (by omega) (by omega) r, if_true]; rfl
theorem sCnt_num (m n : Int) (h1 : 0 ≤ n) (h2 : n ≤ m) (h3 : n ≤ 9223372036854775807) (r : Bs) : sCnt m (num n ++ r) = some (n, r) := by
 simp only [sCnt, rnum_num n (by omega) (by omega) r, Option.bind_some]
 rw [if_neg (by omega)]
theorem sN_map {α : Type} {g : Bs → Option (α × Bs)} {enc : α → Bs} : ∀ (l : List α) (r : Bs), (∀ x ∈ l, ∀ r, g (enc x ++ r) = some (x, r)) → sN g l.length (l.flatMap enc ++ r) = some (l, r)
 | [], r, _ => rfl
 | x :: l, r, h => by
  have h1 := h x (List.mem_cons_self ..) (l.flatMap enc ++ r)
  have h2 := sN_map l r fun y hy => h y (List.mem_cons_of_mem _ hy)
  simp only [List.length_cons, sN, List.flatMap_cons, List.append_assoc, bd, h1, Option.bind_some, h2, rt]
theorem sMany_map {α : Type} {g : Bs → Option (α × Bs)} {enc : α → Bs} (m : Int) (l : List α) (hl : (l.length : Int) ≤ m) (hl2 : (l.length : Int) ≤ 9223372036854775807) (r : Bs) (h : ∀ x ∈ l, ∀ r, g (enc x ++ r) = some (x, r)) : sMany m g (num l.length ++ l.flatMap enc ++ r) = some (l, r) := by
 rw [List.append_assoc]
 simp only [sMany, bd, sCnt_num m l.length (by omega) hl hl2, Option.bind_some, Int.toNat_natCast]
 exact sN_map l r h
def dftR (v : ValS) : List CellS := if v.k = 0 then [] else [⟨0, v⟩]
theorem sDft_put (v : ValS) (hv : valOk v = true) (hi : CellI ⟨0, v⟩) (r : Bs) (hb : (rowB (dftR v)).length ≤ 1000000) : sDft (txt (str (rowB (dftR v))) ++ r) = some (v, r) := by
 have h1 := sText_txt (str (rowB (dftR v))) (by rw [str_size]; omega) r
 have h2 : (str (rowB (dftR v))).data.toList = rowB (dftR v) := by simp [str]
 simp only [sDft, bd, h1, Option.bind_some]
 have h3 : dftOf (str (rowB (dftR v))) = some v := by
  unfold dftOf
  rw [h2]
  by_cases h0 : v.k = 0
  ·have e : dftR v = [] := if_pos h0
   rw [e, parse_put [] (by simp) rfl (fun c hc => by cases hc)]
   have : v = vZ := by
    obtain ⟨k, n, s, t⟩ := v
    simp only at h0
    subst h0
    simpa [valOk, vZ, and_assoc] using hv
   rw [this]
  ·have e : dftR v = [⟨0, v⟩] := if_neg h0
   have hok : okR (-1) [⟨0, v⟩] = true := by simp [okR, h0, hv]
   rw [e, parse_put [⟨0, v⟩] (by simp) hok (fun c hc => by rw [List.mem_singleton.1 hc]; exact hi)]
   rfl
 rw [h3]; rfl

abbrev PSt := Option Bs × Bool
def pSys (m : Nat) : Sys PSt := ⟨fun b => (some b, false), fun t => t.1 = none ∨ t.2 = true, fun t => ∀ l, t.1 = some l → l.length ≤ m⟩
def pNum (t : PSt) : Int × PSt := ((rnumS t.1).1, ((rnumS t.1).2, t.2))
def pText (t : PSt) : ByteArray × PSt := (str (rtextS t.1).1, ((rtextS t.1).2, t.2))
def pFlag (t : PSt) : Bool × PSt := ((rflagS t.1).1, ((rflagS t.1).2, t.2))
def pCnt (most : Int) (t : PSt) : Int × PSt := ((rcountS t.1 most).1, ((rcountS t.1 most).2, t.2))
def cellsOf (b : Bs) : List CellS := (parseS b).getD []
def badOf (b : Bs) : Bool := match parseS b with
 | some [] => false
 | some [c] => decide (c.col ≠ 0)
 | _ => true
def pDft (t : PSt) : ValS × PSt := (getR (cellsOf (rtextS t.1).1) 0, ((rtextS t.1).2, t.2 || badOf (rtextS t.1).1))
def I64 (n : Int) : Prop := -9223372036854775808 ≤ n ∧ n ≤ 9223372036854775807
theorem pDead {t : PSt} (h : t.1 = none ∨ t.2 = true) (f : Option Bs → Option Bs) (hf : f none = none) (c : Bool) : f t.1 = none ∨ (t.2 || c) = true := by
 rcases h with h | h
 ·left; rw [h, hf]
 ·right; rw [h]; rfl
theorem pDead0 {t : PSt} (h : t.1 = none ∨ t.2 = true) (f : Option Bs → Option Bs) (hf : f none = none) : f t.1 = none ∨ t.2 = true := by
 rcases h with h | h
 ·left; rw [h, hf]
 ·right; exact h
theorem sText_some {b r : Bs} {x : ByteArray} (h : sText b = some (x, r)) : rtextS (some b) = (x.data.toList, some r) := by
 simp only [sText, Option.map_eq_some_iff, Prod.mk.injEq] at h
 obtain ⟨r', h1, h2, rfl⟩ := h
 refine Prod.ext ?_ h1
 rw [← h2]; simp [str]
theorem sText_none {b : Bs} (h : sText b = none) : (rtextS (some b)).2 = none := by
 simpa [sText] using h
theorem dftOf_some {t : ByteArray} {v : ValS} (h : dftOf t = some v) : getR (cellsOf t.data.toList) 0 = v ∧ badOf t.data.toList = false := by
 unfold dftOf at h
 unfold cellsOf badOf
 rcases e : parseS t.data.toList with _ | l
 ·rw [e] at h; cases h
 ·rw [e] at h
  rcases l with _ | ⟨c, l⟩
  ·simp only [Option.some.injEq] at h
   subst h; exact ⟨rfl, rfl⟩
  ·rcases l with _ | ⟨d, l⟩
   ·simp only at h
    split at h
    ·rename_i h0
     simp only [Option.some.injEq] at h
     subst h
     exact ⟨by simp [getR, h0], by simp [h0]⟩
    ·cases h
   ·cases h
theorem dftOf_none {t : ByteArray} (h : dftOf t = none) : badOf t.data.toList = true := by
 unfold dftOf at h
 unfold badOf
 rcases e : parseS t.data.toList with _ | l
 ·rfl
 ·rw [e] at h
  rcases l with _ | ⟨c, l⟩
  ·cases h
  ·rcases l with _ | ⟨d, l⟩
   ·simp only at h
    split at h
    ·cases h
    ·rename_i h0; simp [h0]
   ·rfl
theorem pNum_sim (m : Nat) : Sim (pSys m) I64 pNum sNum where
 good b x r _ e := by simp only [pSys, pNum, rnumS_good (show rnum b = some (x, r) from e)]
 bad b _ e := by left; simp only [pSys, pNum, rnumS_bad (show rnum b = none from e)]
 stay t _ h := pDead0 h (fun s => (rnumS s).2) rfl
 small t h := rnumS_len h
 val t _ := rnumS_le t.1
theorem pText_sim (m : Nat) : Sim (pSys m) (fun s => s.size ≤ m) pText sText where
 good b x r _ e := by
  simp only [pSys, pText, sText_some e]
  congr 1
 bad b _ e := by left; exact sText_none e
 stay t _ h := pDead0 h (fun s => (rtextS s).2) rfl
 small t h := (rtextS_lens h).2
 val t h := by rw [pText, str_size]; exact (rtextS_lens h).1
theorem sFlag_rflag (b : Bs) : (∀ x r, sFlag b = some (x, r) → rflagS (some b) = (x, some r)) ∧ (sFlag b = none → (rflagS (some b)).2 = none) := by
 unfold sFlag rflagS rcountS
 cases e : rnum b with
 | none => rw [rnumS_bad e]; exact ⟨fun x r h => by simp at h, fun _ => by simp⟩
 | some p =>
  rw [rnumS_good (n := p.1) (r := p.2) e]
  simp only [Option.bind_some]
  split
  ·exact ⟨fun x r h => by simp at h, fun _ => rfl⟩
  ·exact ⟨fun x r h => by simp only [Option.some.injEq, Prod.mk.injEq] at h; rw [← h.1, ← h.2], fun h => by simp at h⟩
theorem sCnt_rcount (most : Int) (b : Bs) : (∀ x r, sCnt most b = some (x, r) → rcountS (some b) most = (x, some r)) ∧ (sCnt most b = none → (rcountS (some b) most).2 = none) := by
 unfold sCnt rcountS
 cases e : rnum b with
 | none =>
  rw [rnumS_bad e]
  refine ⟨fun x r h => by simp at h, fun _ => ?_⟩
  split <;> rfl
 | some p =>
  rw [rnumS_good (n := p.1) (r := p.2) e]
  simp only [Option.bind_some]
  split
  ·exact ⟨fun x r h => by simp at h, fun _ => rfl⟩
  ·exact ⟨fun x r h => by simp only [Option.some.injEq] at h; rw [h], fun h => by simp at h⟩
theorem pCnt_sim (m : Nat) (most : Int) (h0 : 0 ≤ most) : Sim (pSys m) (fun n => 0 ≤ n ∧ n ≤ most) (pCnt most) (sCnt most) where
 good b x r _ e := by simp only [pSys, pCnt, (sCnt_rcount most b).1 x r e]
 bad b _ e := by left; exact (sCnt_rcount most b).2 e
 stay t _ h := pDead0 h (fun s => (rcountS s most).2) (rcountS_none most)
 small t h := rcountS_len' h
 val t _ := rcountS_rng t.1 most h0
theorem pFlag_sim (m : Nat) : Sim (pSys m) (fun _ => True) pFlag sFlag where
 good b x r _ e := by simp only [pSys, pFlag, (sFlag_rflag b).1 x r e]
 bad b _ e := by left; exact (sFlag_rflag b).2 e
 stay t _ h := pDead0 h (fun s => (rflagS s).2) rflagS_none
 small t h := rcountS_len' (m := 1) h
 val t _ := trivial
theorem getR_size {l : List CellS} {m : Nat} (h : ∀ c ∈ l, c.v.t.size ≤ m) (k : Int) : (getR l k).t.size ≤ m := by
 unfold getR
 cases e : l.find? fun c => decide (c.col = k) with
 | none => exact Nat.zero_le _
 | some c => exact h c (List.mem_of_find?_eq_some e)
theorem cellsOf_size {b : Bs} {m : Nat} (hb : b.length ≤ m) : ∀ c ∈ cellsOf b, c.v.t.size ≤ m := by
 unfold cellsOf parseS
 split
 ·refine (rdC_le (m := m) ?_ _).1
  exact rcountS_len' fun l e => by injection e with e; subst e; exact hb
 ·intro c hc; cases hc
theorem pDft_sim (m : Nat) : Sim (pSys m) (fun v => v.t.size ≤ m) pDft sDft where
 good b x r _ e := by
  obtain ⟨p, e1, e2⟩ := Option.bind_eq_some_iff.1 e
  simp only [Option.map_eq_some_iff, Prod.mk.injEq] at e2
  obtain ⟨v, h1, rfl, rfl⟩ := e2
  have h2 := sText_some (x := p.1) (r := p.2) e1
  obtain ⟨h3, h4⟩ := dftOf_some h1
  simp only [pSys, pDft, h2, h3, h4]
  rfl
 bad b _ e := by
  simp only [pSys, pDft]
  cases h : sText b with
  | none => left; exact sText_none h
  | some p =>
   simp only [sDft, bd, h, Option.bind_some, Option.map_eq_none_iff] at e
   right
   rw [sText_some (x := p.1) (r := p.2) h]
   simp only [dftOf_none e, Bool.or_true]
 stay t _ h := pDead h (fun s => (rtextS s).2) rfl _
 small t h := (rtextS_lens h).2
 val t h := getR_size (cellsOf_size (rtextS_lens h).1) 0

def flagI (x : Bool) : Int := if x = true then 1 else 0
def colB (c : ColS) : Bs := num c.id ++ (txt c.name ++ (num c.ty.k ++ (num c.ty.s ++ (num (flagI c.nn) ++ (txt (str (rowB (dftR c.dft))) ++ num c.st)))))
def idxB (x : IdxS) : Bs := num x.id ++ (txt x.name ++ (num x.cols.length ++ x.cols.flatMap num ++ (num (flagI x.uniq) ++ num x.st)))
def tbB (t : TabS) : Bs := num t.id ++ (txt t.name ++ (num t.cols.length ++ t.cols.flatMap colB ++ (num t.idxs.length ++ t.idxs.flatMap idxB)))
def schB (s : SchS) : Bs := num s.ver ++ (num s.next ++ (num s.tabs.length ++ s.tabs.flatMap tbB))
def sCol : Bs → Option (ColS × Bs) := bd sNum fun id => bd sText fun name => bd sNum fun k => bd sNum fun sc => bd sFlag fun nn => bd sDft fun d => bd sNum fun st => rt ⟨id, name, ⟨k, sc⟩, nn, d, st⟩
def sIdx : Bs → Option (IdxS × Bs) := bd sNum fun id => bd sText fun name => bd (sMany 65536 sNum) fun cols => bd sFlag fun u => bd sNum fun st => rt ⟨id, name, cols, u, st⟩
def sTab : Bs → Option (TabS × Bs) := bd sNum fun id => bd sText fun name => bd (sMany 65536 sCol) fun cols => bd (sMany 65536 sIdx) fun idxs => rt ⟨id, name, cols, idxs⟩
def sSch : Bs → Option (SchS × Bs) := bd sNum fun v => bd sNum fun n => bd (sMany 65536 sTab) fun l => rt ⟨v, n, l⟩
def finS (s : SchS) : Bs → Option SchS := fun r => if r = [] ∧ schOk s = true then some s else none
def parSch (b : Bs) : Option SchS := bd sSch finS b
def okP (t : PSt) : Bool := t.1.isSome
def pMany {α : Type} (f : PSt → α × PSt) : PSt → List α × PSt := sq (pCnt 65536) fun n => mnL okP f n.toNat []
def pCol : PSt → ColS × PSt := sq pNum fun id => sq pText fun name => sq pNum fun k => sq pNum fun sc => sq pFlag fun nn => sq pDft fun d => sq pNum fun st => un ⟨id, name, ⟨k, sc⟩, nn, d, st⟩
def pIdx : PSt → IdxS × PSt := sq pNum fun id => sq pText fun name => sq (pMany pNum) fun cols => sq pFlag fun u => sq pNum fun st => un ⟨id, name, cols, u, st⟩
def pTab : PSt → TabS × PSt := sq pNum fun id => sq pText fun name => sq (pMany pCol) fun cols => sq (pMany pIdx) fun idxs => un ⟨id, name, cols, idxs⟩
def pSch : PSt → SchS × PSt := sq pNum fun v => sq pNum fun n => sq (pMany pTab) fun l => un ⟨v, n, l⟩
theorem okP_live (m : Nat) (b : Bs) : okP ((pSys m).live b) = true := rfl
theorem pMany_sim {α : Type} {m : Nat} {ok : α → Prop} {f : PSt → α × PSt} {g : Bs → Option (α × Bs)} (a : Sim (pSys m) ok f g) : Sim (pSys m) (fun l => l.length ≤ 65536 ∧ ∀ x ∈ l, ok x) (pMany f) (sMany 65536 g) := by
 refine (pCnt_sim m 65536 (by omega)).bind fun n hn => ?_
 have h := Sim.mnL (okP_live m) a n.toNat [] (fun x hx => by cases hx)
 simp only [List.nil_append, bd_id] at h
 exact h.mono fun l hl => ⟨by have := hl.1; simp only [List.length_nil] at this; omega, hl.2⟩
def ColM (m : Nat) (c : ColS) : Prop := c.name.size ≤ m ∧ c.dft.t.size ≤ m
def IdxM (m : Nat) (x : IdxS) : Prop := x.name.size ≤ m ∧ x.cols.length ≤ 65536
def TabM (m : Nat) (t : TabS) : Prop := t.name.size ≤ m ∧ (t.cols.length ≤ 65536 ∧ ∀ c ∈ t.cols, ColM m c) ∧ t.idxs.length ≤ 65536 ∧ ∀ x ∈ t.idxs, IdxM m x
def SchM (m : Nat) (s : SchS) : Prop := s.tabs.length ≤ 65536 ∧ ∀ t ∈ s.tabs, TabM m t
theorem pCol_sim (m : Nat) : Sim (pSys m) (ColM m) pCol sCol := (pNum_sim m).bind fun id _ => (pText_sim m).bind fun name h1 => (pNum_sim m).bind fun k _ => (pNum_sim m).bind fun sc _ => (pFlag_sim m).bind fun nn _ => (pDft_sim m).bind fun d h2 => (pNum_sim m).bind fun st _ => Sim.pure _ ⟨h1, h2⟩
theorem pIdx_sim (m : Nat) : Sim (pSys m) (IdxM m) pIdx sIdx := (pNum_sim m).bind fun id _ => (pText_sim m).bind fun name h1 => (pMany_sim (pNum_sim m)).bind fun cols h2 => (pFlag_sim m).bind fun u _ => (pNum_sim m).bind fun st _ => Sim.pure _ ⟨h1, h2.1⟩
theorem pTab_sim (m : Nat) : Sim (pSys m) (TabM m) pTab sTab := (pNum_sim m).bind fun id _ => (pText_sim m).bind fun name h1 => (pMany_sim (pCol_sim m)).bind fun cols h2 => (pMany_sim (pIdx_sim m)).bind fun idxs h3 => Sim.pure _ ⟨h1, h2, h3⟩
theorem pSch_sim (m : Nat) : Sim (pSys m) (SchM m) pSch sSch := (pNum_sim m).bind fun v _ => (pNum_sim m).bind fun n _ => (pMany_sim (pTab_sim m)).bind fun l h => Sim.pure _ h
theorem parSch_prog (b : Bs) : (parSch b = none ∧ ¬ ((pSch (some b, false)).2 = (some [], false) ∧ schOk (pSch (some b, false)).1 = true)) ∨ (∃ s, parSch b = some s ∧ pSch (some b, false) = (s, (some [], false)) ∧ schOk s = true) := by
 have S := pSch_sim b.length
 have hs : (pSys b.length).small ((pSys b.length).live b) := fun l e => by injection e with e; subst e; exact Nat.le_refl _
 unfold parSch bd
 cases e : sSch b with
 | none =>
  left
  refine ⟨rfl, fun h => ?_⟩
  have := S.bad b hs e
  simp only [pSys, h.1] at this
  rcases this with h | h <;> cases h
 | some p =>
  have h := S.good b p.1 p.2 hs e
  simp only [pSys] at h
  rw [h]
  simp only [Option.bind_some, finS]
  by_cases h2 : p.2 = [] ∧ schOk p.1 = true
  ·right
   rw [if_pos h2]
   exact ⟨p.1, rfl, by rw [h2.1], h2.2⟩
  ·left
   rw [if_neg h2]
   exact ⟨rfl, fun h => h2 ⟨by have := congrArg Prod.fst h.1; simpa using this, h.2⟩⟩
theorem nameOk_size {s : ByteArray} (h : nameOk s = true) : s.size ≤ 24 := by
 unfold nameOk at h
 simp only [Bool.and_eq_true, decide_eq_true_eq] at h
 omega
theorem ofOk_val {v : ValS} {t : TypS} (h : ofOk v t = true) : valOk v = true := by
 unfold ofOk at h
 simp only [Bool.and_eq_true] at h
 grind
theorem cell0_i : i64v 0 := ⟨by decide, by decide⟩
theorem cellI0 {v : ValS} (ho : v.Ok) : CellI ⟨0, v⟩ := ⟨cell0_i, ho.2.1, ho.2.2.1, ho.2.2.2⟩
theorem rowB_dft_len (v : ValS) (hv : valOk v = true) (ho : v.Ok) : (rowB (dftR v)).length ≤ 300 := by
 unfold dftR
 by_cases h0 : v.k = 0
 ·rw [if_pos h0]; decide +kernel
 ·rw [if_neg h0]
  have h1 := cellsB_len [⟨0, v⟩] fun c hc => by
   rw [List.mem_singleton.1 hc]
   exact ⟨⟨cell0_i, ho⟩, h0, hv⟩
  have h2 := num_len 1 (by omega) (by omega)
  have e : rowB [⟨0, v⟩] = num 1 ++ [(⟨0, v⟩ : CellS)].flatMap cellB := rfl
  rw [e, List.length_append]
  simp only [List.length_cons, List.length_nil] at h1
  omega
theorem colOk_mem {c : ColS} (h : colOk c = true) : c.name.size ≤ 24 ∧ valOk c.dft = true := by
 unfold colOk at h
 simp only [Bool.and_eq_true] at h
 exact ⟨nameOk_size h.1.1, ofOk_val h.1.2⟩
theorem idxOk_mem {t : TabS} {x : IdxS} (h : idxOk t x = true) : x.name.size ≤ 24 ∧ x.cols.length ≤ 4 := by
 unfold idxOk at h
 simp only [Bool.and_eq_true, decide_eq_true_eq] at h
 exact ⟨nameOk_size h.1.1.1.1, h.1.2⟩
theorem tabOk_mem {t : TabS} {n : Int} (h : tabOk t n = true) : t.name.size ≤ 24 ∧ t.cols.length ≤ 12 ∧ t.idxs.length ≤ 8 ∧ (∀ c ∈ t.cols, colOk c = true) ∧ ∀ x ∈ t.idxs, idxOk t x = true := by
 unfold tabOk at h
 simp only [Bool.and_eq_true, decide_eq_true_eq, List.all_eq_true] at h
 obtain ⟨⟨⟨⟨⟨⟨⟨h1, h2⟩, h3⟩, h4⟩, h5⟩, h6⟩, h7⟩, h8⟩ := h
 exact ⟨nameOk_size h1, h2, h3, h7, h8⟩
theorem schOk_mem {s : SchS} (h : schOk s = true) : s.tabs.length ≤ 8 ∧ ∀ t ∈ s.tabs, tabOk t s.next = true := by
 unfold schOk at h
 simp only [Bool.and_eq_true, decide_eq_true_eq, List.all_eq_true] at h
 exact ⟨h.1.1.1.2, h.2⟩
theorem sFlag_flagI (x : Bool) (r : Bs) : sFlag (num (flagI x) ++ r) = some (x, r) := sFlag_num x r
theorem sCol_colB {c : ColS} (hc : colOk c = true) (ho : c.Ok) (r : Bs) : sCol (colB c ++ r) = some (c, r) := by
 obtain ⟨h1, h2⟩ := colOk_mem hc
 obtain ⟨o1, o2, o3, o4, o5⟩ := ho
 have hb := rowB_dft_len c.dft h2 o4
 have hi := cellI0 o4
 have e1 := fun r => sNum_num c.id o1.1 o1.2 r
 have e2 := fun r => sText_txt c.name (by omega) r
 have e3 := fun r => sNum_num c.ty.k o3.1.1 o3.1.2 r
 have e4 := fun r => sNum_num c.ty.s o3.2.1 o3.2.2 r
 have e5 := fun r => sFlag_flagI c.nn r
 have e6 := fun r => sDft_put c.dft h2 hi r (by omega)
 have e7 := fun r => sNum_num c.st o5.1 o5.2 r
 simp only [colB, sCol, bd, List.append_assoc, e1, e2, e3, e4, e5, e6, e7, Option.bind_some, rt]
theorem sIdx_idxB {t : TabS} {x : IdxS} (hx : idxOk t x = true) (ho : x.Ok) (r : Bs) : sIdx (idxB x ++ r) = some (x, r) := by
 obtain ⟨h1, h2⟩ := idxOk_mem hx
 obtain ⟨o1, o2, o3, o4⟩ := ho
 have e1 := fun r => sNum_num x.id o1.1 o1.2 r
 have e2 := fun r => sText_txt x.name (by omega) r
 have e3 := fun r => sMany_map (g := sNum) (enc := num) 65536 x.cols (by omega) (by omega) r fun k hk r => sNum_num k (o3 k hk).1 (o3 k hk).2 r
 simp only [List.append_assoc] at e3
 have e5 := fun r => sFlag_flagI x.uniq r
 have e7 := fun r => sNum_num x.st o4.1 o4.2 r
 simp only [idxB, sIdx, bd, List.append_assoc, e1, e2, e3, e5, e7, Option.bind_some, rt]
theorem sTab_tbB {t : TabS} {n : Int} (ht : tabOk t n = true) (ho : t.Ok) (r : Bs) : sTab (tbB t ++ r) = some (t, r) := by
 obtain ⟨h1, h2, h3, h4, h5⟩ := tabOk_mem ht
 obtain ⟨o1, o2, o3, o4⟩ := ho
 have e1 := fun r => sNum_num t.id o1.1 o1.2 r
 have e2 := fun r => sText_txt t.name (by omega) r
 have e3 := fun r => sMany_map (g := sCol) (enc := colB) 65536 t.cols (by omega) (by omega) r fun c hc r => sCol_colB (h4 c hc) (o3 c hc) r
 have e4 := fun r => sMany_map (g := sIdx) (enc := idxB) 65536 t.idxs (by omega) (by omega) r fun x hx r => sIdx_idxB (h5 x hx) (o4 x hx) r
 simp only [List.append_assoc] at e3 e4
 simp only [tbB, sTab, bd, List.append_assoc, e1, e2, e3, e4, Option.bind_some, rt]
theorem sSch_schB {s : SchS} (hs : schOk s = true) (ho : s.Ok) (r : Bs) : sSch (schB s ++ r) = some (s, r) := by
 obtain ⟨h1, h2⟩ := schOk_mem hs
 obtain ⟨o1, o2, o3⟩ := ho
 have e1 := fun r => sNum_num s.ver o1.1 o1.2 r
 have e2 := fun r => sNum_num s.next o2.1 o2.2 r
 have e3 := fun r => sMany_map (g := sTab) (enc := tbB) 65536 s.tabs (by omega) (by omega) r fun t ht r => sTab_tbB (h2 t ht) (o3 t ht) r
 simp only [List.append_assoc] at e3
 simp only [schB, sSch, bd, List.append_assoc, e1, e2, e3, Option.bind_some, rt]
theorem parSch_put {s : SchS} (hs : schOk s = true) (ho : s.Ok) : parSch (schB s) = some s := by
 have := sSch_schB hs ho []
 rw [List.append_nil] at this
 simp only [parSch, bd, this, Option.bind_some, finS]
 rw [if_pos ⟨trivial, hs⟩]
theorem colB_len {c : ColS} (hc : colOk c = true) (ho : c.Ok) : (colB c).length ≤ 400 := by
 obtain ⟨h1, h2⟩ := colOk_mem hc
 obtain ⟨o1, o2, o3, o4, o5⟩ := ho
 have hb := rowB_dft_len c.dft h2 o4
 have e1 := num_len c.id o1.1 o1.2
 have e2 := txt_len c.name (by omega)
 have e3 := num_len c.ty.k o3.1.1 o3.1.2
 have e4 := num_len c.ty.s o3.2.1 o3.2.2
 have e5 := num_len (flagI c.nn) (by unfold flagI; split <;> omega) (by unfold flagI; split <;> omega)
 have e6 := txt_len (str (rowB (dftR c.dft))) (by rw [str_size]; omega)
 have e7 := num_len c.st o5.1 o5.2
 rw [str_size] at e6
 simp only [colB, List.length_append]
 omega
theorem flat_len {α : Type} {f : α → Bs} {m : Nat} : ∀ (l : List α), (∀ x ∈ l, (f x).length ≤ m) → (l.flatMap f).length ≤ l.length * m
 | [], _ => by simp
 | x :: l, h => by
  have h1 := h x (List.mem_cons_self ..)
  have h2 := flat_len l fun y hy => h y (List.mem_cons_of_mem _ hy)
  rw [List.flatMap_cons, List.length_append, List.length_cons, Nat.add_mul]
  omega
theorem idxB_len {t : TabS} {x : IdxS} (hx : idxOk t x = true) (ho : x.Ok) : (idxB x).length ≤ 200 := by
 obtain ⟨h1, h2⟩ := idxOk_mem hx
 obtain ⟨o1, o2, o3, o4⟩ := ho
 have e1 := num_len x.id o1.1 o1.2
 have e2 := txt_len x.name (by omega)
 have e3 := num_len x.cols.length (by omega) (by omega)
 have e4 := flat_len (f := num) (m := 9) x.cols fun k hk => num_len k (o3 k hk).1 (o3 k hk).2
 have e5 := num_len (flagI x.uniq) (by unfold flagI; split <;> omega) (by unfold flagI; split <;> omega)
 have e7 := num_len x.st o4.1 o4.2
 simp only [idxB, List.length_append]
 omega
theorem tbB_len {t : TabS} {n : Int} (ht : tabOk t n = true) (ho : t.Ok) : (tbB t).length ≤ 7000 := by
 obtain ⟨h1, h2, h3, h4, h5⟩ := tabOk_mem ht
 obtain ⟨o1, o2, o3, o4⟩ := ho
 have e1 := num_len t.id o1.1 o1.2
 have e2 := txt_len t.name (by omega)
 have e3 := num_len t.cols.length (by omega) (by omega)
 have e4 := flat_len (f := colB) (m := 400) t.cols fun c hc => colB_len (h4 c hc) (o3 c hc)
 have e5 := num_len t.idxs.length (by omega) (by omega)
 have e6 := flat_len (f := idxB) (m := 200) t.idxs fun x hx => idxB_len (h5 x hx) (o4 x hx)
 simp only [tbB, List.length_append]
 omega
theorem schB_len {s : SchS} (hs : schOk s = true) (ho : s.Ok) : (schB s).length ≤ 60000 := by
 obtain ⟨h1, h2⟩ := schOk_mem hs
 obtain ⟨o1, o2, o3⟩ := ho
 have e1 := num_len s.ver o1.1 o1.2
 have e2 := num_len s.next o2.1 o2.2
 have e3 := num_len s.tabs.length (by omega) (by omega)
 have e4 := flat_len (f := tbB) (m := 7000) s.tabs fun t ht => tbB_len (h2 t ht) (o3 t ht)
 simp only [schB, List.length_append]
 omega
end Go.Proofs.YthgoocdldnkogaaGreatDoor
