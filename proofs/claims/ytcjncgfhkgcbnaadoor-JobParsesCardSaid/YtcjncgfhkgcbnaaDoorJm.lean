import Derived.Test.YtcjncgfhkgcbnaaDoorJn
namespace Go.Proofs.YtcjncgfhkgcbnaaDoor
set_option linter.unusedVariables false
set_option linter.unusedSimpArgs false
open Go.RowKit
structure MvS where
  tab : Int
  ofi : Bool
  item : Int
  st : Int
def mvC (m : MvS) : List AV := [.c (.int .i64 m.tab), .c (.bool m.ofi), .c (.int .i64 m.item), .c (.int .i64 m.st)]
def mvsA (l : List MvS) : List AV := l.flatMap mvC
def mvA (l : List MvS) : AV := if l.length = 0 then .c (.slice none 0 0) else .fs 4 l.length (mvsA l)
structure NxS where
  ver : Int
  mv : List MvS
  up : Bool
def nxA (n : NxS) : AV := .agg [.c (.int .i64 n.ver), mvA n.mv, .c (.bool n.up)]
def plA (j : JobS) (t : TabS) : List AV := jobA j ++ [.fp (tabA t)]
def plMove (j : JobS) (st : Int) : MvS := ⟨j.table, ofIdx j.kind, j.item, st⟩
def plPart (j : JobS) (v : Int) (n : NxS) : NxS := if j.full = true then n else ⟨v, [], false⟩
def nx3 : NxS := ⟨3, [], false⟩
def plOther (j : JobS) (t : TabS) : NxS := if stOf t false j.other = some 2 then ⟨0, [⟨j.table, false, j.other, 1⟩], false⟩ else if stOf t false j.other = some 1 then plPart j 2 ⟨0, [⟨j.table, false, j.other, 0⟩], false⟩ else nx3
def plDown (j : JobS) (t : TabS) : NxS := if stOf t (ofIdx j.kind) j.item = some 3 then ⟨0, [plMove j 2], true⟩ else if stOf t (ofIdx j.kind) j.item = some 2 then ⟨0, [plMove j 1], false⟩ else if stOf t (ofIdx j.kind) j.item = some 1 then plPart j 2 ⟨0, [plMove j 0], false⟩ else nx3
def plUp (j : JobS) (t : TabS) : NxS := if stOf t (ofIdx j.kind) j.item = none ∧ j.item = -1 then ⟨0, [], false⟩ else if stOf t (ofIdx j.kind) j.item = some 1 then ⟨0, [plMove j 2], false⟩ else if stOf t (ofIdx j.kind) j.item = some 2 then plPart j 1 ⟨0, plMove j 3 :: (if j.kind = 4 ∧ stOf t false j.other = some 3 then [⟨j.table, false, j.other, 2⟩] else []), true⟩ else if j.kind = 4 ∧ stOf t (ofIdx j.kind) j.item = some 3 then plOther j t else nx3
def jNext (j : JobS) (s : SchS) : NxS := if j.fin = true then nx3 else match jTab j s with
  | none => if j.kind = 5 then ⟨0, [], true⟩ else nx3
  | some t => if j.kind = 5 then nx3 else if j.kind = 1 ∨ j.kind = 3 ∨ j.back = true then plDown j t else plUp j t
theorem mvA_isD (l : List MvS) : isD (mvA l) = true := by
  unfold mvA
  split <;> rfl
@[simp] theorem mvA_isD' (l : List MvS) : isD (mvA l) = true := mvA_isD l
@[simp] theorem mvA_cell (l : List MvS) : isCell (mvA l) = true := by
  unfold mvA
  split
  · simp [isCell_c, Value.oneCell']
  · simp [isCell_fs]
theorem part_or (j : JobS) (v : Int) (n : NxS) : plPart j v n = n ∨ plPart j v n = ⟨v, [], false⟩ := by
  unfold plPart
  split
  · exact .inl rfl
  · exact .inr rfl
theorem nxA_nil (v : Int) (b : Bool) : nxA ⟨v, [], b⟩ = .agg [.c (.int .i64 v), .c (.slice none 0 0), .c (.bool b)] := rfl
theorem nxA_cons (v : Int) (m : MvS) (l : List MvS) (b : Bool) : nxA ⟨v, m :: l, b⟩ = .agg [.c (.int .i64 v), .fs 4 (m :: l).length (mvsA (m :: l)), .c (.bool b)] := by
  unfold nxA mvA
  rw [if_neg (by simp)]
theorem mvA_one (m : MvS) : mvA [m] = .fs 4 1 (mvC m) := by
  unfold mvA mvsA
  simp
theorem mvA_two (a b : MvS) : mvA [a, b] = .fs 4 2 (mvC a ++ mvC b) := by
  unfold mvA mvsA
  simp
end Go.Proofs.YtcjncgfhkgcbnaaDoor
