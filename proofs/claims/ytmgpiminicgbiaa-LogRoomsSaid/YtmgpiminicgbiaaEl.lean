import Derived.Test.YtmgpiminicgbiaaEk
namespace Go.Proofs.Ytmgpiminicgbiaa
set_option linter.unusedVariables false
set_option linter.unusedSimpArgs false
open Go.RowKit

/-! ## A call by a contract -/
def idx : List Nat → Nat → Option Nat
  | [], _ => none
  | x :: l, k => if x = k then some 0 else (idx l k).map (· + 1)
theorem idx_spec : ∀ (l : List Nat) (k i : Nat), idx l k = some i → l[i]? = some k := by
  intro l
  induction l with
  | nil => intro k i h; cases h
  | cons x l ih =>
    intro k i h
    simp only [idx] at h
    split at h
    · rename_i e; injection h with h; subst h; simp [e]
    · rw [Option.map_eq_some_iff] at h
      obtain ⟨j, hj, rfl⟩ := h
      simpa using ih k j hj
theorem idx_none : ∀ (l : List Nat) (k : Nat), idx l k = none → k ∉ l := by
  intro l
  induction l with
  | nil => intro k _; simp
  | cons x l ih =>
    intro k h
    simp only [idx] at h
    split at h
    · cases h
    · rename_i e
      rw [Option.map_eq_none_iff] at h
      simp only [List.mem_cons, not_or]
      exact ⟨fun e' => e e'.symm, ih k h⟩
theorem idx_of_get : ∀ (l : List Nat) (k i : Nat), l.Nodup → l[i]? = some k → idx l k = some i := by
  intro l
  induction l with
  | nil => intro k i _ h; simp at h
  | cons x l ih =>
    intro k i hn h
    simp only [List.nodup_cons] at hn
    cases i with
    | zero => simp at h; simp [idx, h]
    | succ i =>
      simp at h
      have hk : x ≠ k := fun e => hn.1 (e ▸ List.mem_of_getElem? h)
      simp [idx, hk, ih k i hn.2 h]
mutual
def AV.conv (ρ : List Nat) (ok : Nat → Bool) (h : List AObj) : AV → Option (Prop × AV)
  | .any => some (True, .any)
  | .c v => some (True, .c v)
  | .fs sz n l => some (True, .fs sz n l)
  | .fp l => some (True, .fp l)
  | .ptr k off m => (idx ρ k).map fun i => (True, .ptr i off m)
  | .sl k sz off n m => match idx ρ k with
    | some i => some (True, .sl i sz off n m)
    | none => if ok k then (cellsH h k).map fun cs => (cs.length = m ∧ off + n * sz ≤ m ∧ n ≤ maxLen ∧ ((cs.drop off).take (n * sz)).all isD = true, .fs sz n ((cs.drop off).take (n * sz))) else none
  | .agg l => (AV.convL ρ ok h l).map fun p => (p.1, .agg p.2)
  | .tup l => (AV.convL ρ ok h l).map fun p => (p.1, .tup p.2)
  | .clo f l k => match AV.convL ρ ok h l, AV.convL ρ ok h k with
    | some p, some q => some (p.1 ∧ q.1, .clo f p.2 q.2)
    | _, _ => none
  | .g .. => none
def AV.convL (ρ : List Nat) (ok : Nat → Bool) (h : List AObj) : List AV → Option (Prop × List AV)
  | [] => some (True, [])
  | v :: l => match AV.conv ρ ok h v, AV.convL ρ ok h l with
    | some p, some q => some (p.1 ∧ q.1, p.2 :: q.2)
    | _, _ => none
end
def convO (ρ : List Nat) (ok : Nat → Bool) (h : List AObj) : AObj → Option (Prop × AObj)
  | .o .box cs => (AV.convL ρ ok h cs).map fun p => (p.1, .o .box p.2)
  | .o (.row e sz) cs => some (cs.all isD = true, .o (.row e sz) cs)
  | _ => none
def convOs (ρ : List Nat) (ok : Nat → Bool) (h : List AObj) : List Nat → Option (Prop × List AObj)
  | [] => some (True, [])
  | k :: l => match (h[k]?).bind (convO ρ ok h), convOs ρ ok h l with
    | some p, some q => some (p.1 ∧ q.1, p.2 :: q.2)
    | _, _ => none
mutual
def AV.reb (β : Nat → Nat) : AV → AV
  | .ptr k off m => .ptr (β k) off m
  | .sl k sz off n m => .sl (β k) sz off n m
  | .agg l => .agg (AV.rebL β l)
  | .tup l => .tup (AV.rebL β l)
  | .clo f l k => .clo f (AV.rebL β l) (AV.rebL β k)
  | .g b w v => .g b w (AV.reb β v)
  | v => v
def AV.rebL (β : Nat → Nat) : List AV → List AV
  | [] => []
  | v :: l => AV.reb β v :: AV.rebL β l
end
mutual
/-- no handle that is dead is named -/
def AV.liv (dead : List Nat) : AV → Bool
  | .ptr k _ _ => !dead.contains k
  | .sl k _ _ _ _ => !dead.contains k
  | .agg l => AV.livL dead l
  | .tup l => AV.livL dead l
  | .clo _ l k => AV.livL dead l && AV.livL dead k
  | .g _ _ v => AV.liv dead v
  | _ => true
def AV.livL (dead : List Nat) : List AV → Bool
  | [] => true
  | v :: l => AV.liv dead v && AV.livL dead l
end
theorem convL_at {ρ : List Nat} {ok : Nat → Bool} {h : List AObj} : ∀ {l : List AV} {p : Prop × List AV}, AV.convL ρ ok h l = some p → p.1 → p.2.length = l.length ∧ ∀ (j : Nat) (u' : AV), p.2[j]? = some u' → ∃ u q, l[j]? = some u ∧ AV.conv ρ ok h u = some (q, u') ∧ q := by
  intro l
  induction l with
  | nil => intro p hp _; simp only [AV.convL] at hp; injection hp with hp; subst hp; exact ⟨rfl, fun j u' h => by simp at h⟩
  | cons v l ih =>
    intro p hp hs
    simp only [AV.convL] at hp
    split at hp
    · rename_i p1 q1 e1 e2
      injection hp with hp; subst hp
      obtain ⟨i1, i2⟩ := ih e2 hs.2
      refine ⟨by simp [i1], fun j u' hj => ?_⟩
      cases j with
      | zero => simp at hj; subst hj; exact ⟨v, p1.1, rfl, e1, hs.1⟩
      | succ j => simpa using i2 j u' (by simpa using hj)
    · cases hp
theorem rebL_at {β : Nat → Nat} : ∀ {l : List AV}, (AV.rebL β l).length = l.length ∧ ∀ (j : Nat) (u' : AV), (AV.rebL β l)[j]? = some u' → ∃ u, l[j]? = some u ∧ u' = u.reb β := by
  intro l
  induction l with
  | nil => exact ⟨rfl, fun j u' h => by simp [AV.rebL] at h⟩
  | cons v l ih =>
    refine ⟨by simp [AV.rebL, ih.1], fun j u' hj => ?_⟩
    simp only [AV.rebL] at hj
    cases j with
    | zero => simp at hj; exact ⟨v, rfl, hj.symm⟩
    | succ j => simpa using ih.2 j u' (by simpa using hj)
theorem livL_at {dead : List Nat} : ∀ {l : List AV}, AV.livL dead l = true → ∀ (j : Nat) (u : AV), l[j]? = some u → u.liv dead = true := by
  intro l
  induction l with
  | nil => intro _ j u h; simp at h
  | cons v l ih =>
    intro hl j u hj
    simp only [AV.livL, Bool.and_eq_true] at hl
    cases j with
    | zero => simp at hj; subst hj; exact hl.1
    | succ j => exact ih hl.2 j u (by simpa using hj)
section
variable {P : Program} {G : Gh} {F : Nat → Prop} {w : World} {E : Env} {s : AS} {a : Act}
theorem RepV.keepL {G G' : Gh} {ln ln' : List Nat} {F F' : Nat → Prop} {w w' : World} {dead : List Nat} (hl : ∀ (k m : Nat), k ∉ dead → ln[k]? = some m → (ln'[k]? = some m ∧ G'.σ k = G.σ k ∧ G'.bs k = G.bs k ∧ G'.vir k = G.vir k) ∨ ∃ m', ln'[k]? = some m' ∧ m < m')
    (hF : ∀ b, F b → F' b) (hw : ∀ b, F b → w'.heap[b]? = w.heap[b]?) : ∀ {av v}, RepV G ln F w av v → av.liv dead = true → RepV G' ln' F' w' av v := by
  intro av v h
  induction h with
  | any v => intro _; exact .any v
  | d av v h => intro _; exact .d _ _ (h.keep hF hw)
  | ptr h off m h1 h2 =>
    intro hv
    simp [AV.liv] at hv
    rcases hl _ _ hv h1 with ⟨e1, e2, e3, e4⟩ | ⟨m', e1, e2⟩
    · rw [← e2]; exact .ptr h off m e1 (e4.trans h2)
    · exact .ptrOld h off m m' _ e1 e2
  | ptrOld h off m m' p h1 h2 =>
    intro hv
    simp [AV.liv] at hv
    rcases hl _ _ hv h1 with ⟨e1, _⟩ | ⟨m'', e1, e2⟩
    · exact .ptrOld h off m m' p e1 h2
    · exact .ptrOld h off m m'' p e1 (Nat.lt_trans h2 e2)
  | sl h sz off n m c h1 h2 h3 h4 h5 =>
    intro hv
    simp [AV.liv] at hv
    rcases hl _ _ hv h1 with ⟨e1, e2, e3, e4⟩ | ⟨m', e1, e2⟩
    · rw [← e2]; exact .sl h sz off n m c e1 (e4.trans h2) h3 h4 (e3.symm ▸ h5)
    · exact .slOld h sz off n m m' _ _ _ e1 e2
  | slNil h sz h1 h2 =>
    intro hv
    simp [AV.liv] at hv
    rcases hl _ _ hv h1 with ⟨e1, e2, e3, e4⟩ | ⟨m', e1, e2⟩
    · exact .slNil h sz e1 (e4.trans h2)
    · exact .slOld h sz 0 0 0 m' _ _ _ e1 e2
  | slOld h sz off n m m' A l c h1 h2 =>
    intro hv
    simp [AV.liv] at hv
    rcases hl _ _ hv h1 with ⟨e1, _⟩ | ⟨m'', e1, e2⟩
    · exact .slOld h sz off n m m' A l c e1 h2
    · exact .slOld h sz off n m m'' A l c e1 (Nat.lt_trans h2 e2)
  | fp l b o f h1 h2 h3 => intro _; exact .fp l b o f (hF b h1) (fun j hj => by rw [World.cell?_of_block (a := ⟨b, o + j, none⟩) (hw b h1)]; exact h2 j hj) fun j u hu => (h3 j u hu).keep hF hw
  | agg l cs h1 _ ih => intro hv; exact .agg l cs h1 fun j u x hu hx => ih j u x hu hx (livL_at (by simpa [AV.liv] using hv) j u hu)
  | tup l cs h1 _ ih => intro hv; exact .tup l cs h1 fun j u x hu hx => ih j u x hu hx (livL_at (by simpa [AV.liv] using hv) j u hu)
  | clo f l k cs ds h1 h2 _ _ ih1 ih2 =>
    intro hv
    simp only [AV.liv, Bool.and_eq_true] at hv
    exact .clo f l k cs ds h1 h2 (fun j u x hu hx => ih1 j u x hu hx (livL_at hv.1 j u hu)) fun j u x hu hx => ih2 j u x hu hx (livL_at hv.2 j u hu)
  | g b want u v _ h ih => intro hv; exact .g b want u v (fun e => ih e (by simpa [AV.liv] using hv)) h
/-- in the callee's words -/
theorem RepV.conv {lent : List Nat} {ok : Nat → Bool} {h : List AObj} {Gc : Gh} {lnc : List Nat} {Fc : Nat → Prop} (hh : HRel G F h w) (hG : ∀ (i k : Nat), lent[i]? = some k → Gc.σ i = G.σ k ∧ Gc.bs i = G.bs k ∧ Gc.vir i = G.vir k ∧ lnc[i]? = (lens h)[k]?)
    (hF : ∀ b, F b → Fc b) (hok : ∀ k kd cs, h[k]? = some (.o kd cs) → ok k = true → G.vir k = false → Fc (G.σ k)) : ∀ {av v}, RepV G (lens h) F w av v → ∀ {q : Prop} {av' : AV}, AV.conv lent ok h av = some (q, av') → q → RepV Gc lnc Fc w av' v := by
  intro av v hr
  induction hr with
  | any v => intro q av' hq _; simp only [AV.conv] at hq; injection hq with hq; injection hq with _ hq; subst hq; exact .any v
  | d av v hd =>
    intro q av' hq _
    have hd' := hd.keep hF (w' := w) fun _ _ => rfl
    cases hd with
    | c v => simp only [AV.conv] at hq; injection hq with hq; injection hq with _ hq; subst hq; exact .d _ _ hd'
    | fs0 sz A c h => simp only [AV.conv] at hq; injection hq with hq; injection hq with _ hq; subst hq; exact .d _ _ hd'
    | fs sz n b o c l f h1 h2 h3 h4 h5 h6 => simp only [AV.conv] at hq; injection hq with hq; injection hq with _ hq; subst hq; exact .d _ _ hd'
  | ptr k off m h1 h2 =>
    intro q av' hq _
    simp only [AV.conv] at hq
    rw [Option.map_eq_some_iff] at hq
    obtain ⟨i, hi, hq⟩ := hq
    injection hq with _ hq; subst hq
    obtain ⟨e1, e2, e3, e4⟩ := hG i k (idx_spec _ _ _ hi)
    rw [← e1]
    exact .ptr i off m (e4.trans h1) (e3.trans h2)
  | ptrOld k off m m' p h1 h2 =>
    intro q av' hq _
    simp only [AV.conv] at hq
    rw [Option.map_eq_some_iff] at hq
    obtain ⟨i, hi, hq⟩ := hq
    injection hq with _ hq; subst hq
    obtain ⟨e1, e2, e3, e4⟩ := hG i k (idx_spec _ _ _ hi)
    exact .ptrOld i off m m' p (e4.trans h1) h2
  | sl k sz off n m c h1 h2 h3 h4 h5 =>
    intro q av' hq hs
    simp only [AV.conv] at hq
    split at hq
    · rename_i i hi
      injection hq with hq; injection hq with _ hq; subst hq
      obtain ⟨e1, e2, e3, e4⟩ := hG i k (idx_spec _ _ _ hi)
      rw [← e1]
      exact .sl i sz off n m c (e4.trans h1) (e3.trans h2) h3 h4 (e2.symm ▸ h5)
    · split at hq
      · rename_i hk
        rw [Option.map_eq_some_iff] at hq
        obtain ⟨cs, hcs, hq⟩ := hq
        injection hq with hq1 hq; subst hq1 hq
        obtain ⟨s1, s2, s2', s3⟩ := hs
        obtain ⟨kd, hkd, _⟩ := cellsH_at hcs
        obtain ⟨cur, ty, fr, hb, hsz, hcr⟩ := hh.cells hkd h2
        refine .d _ _ ?_
        rcases Nat.eq_zero_or_pos n with h0 | h0
        · subst h0
          simp only [Nat.zero_mul, List.take_zero]
          exact .fs0 sz _ c h4
        · refine .fs sz n (G.σ k) off c _ (fun j => cur.getD (off + j) undef) h0 h3 h4 (by simp; omega) (hok k _ _ hkd hk h2) (fun j hj => ?_) fun j u hu => ?_
          · rw [cell_cells hb]
            have : off + j < cur.size := by simp at hj; omega
            simp [Array.getD, this]
          · have hd := List.all_eq_true.1 s3 u (List.mem_of_getElem? hu)
            rw [List.getElem?_take] at hu
            split at hu
            · rw [drop_at] at hu
              obtain ⟨y, hy, hry⟩ := hcr _ _ hu
              have : cur.getD (off + j) undef = y := by rw [Array.getD_eq_getD_getElem?, hy]; rfl
              rw [this]
              exact (isD_rep hd hry).keep hF fun _ _ => rfl
            · cases hu
      · cases hq
  | slNil k sz h1 h2 =>
    intro q av' hq hs
    simp only [AV.conv] at hq
    split at hq
    · rename_i i hi
      injection hq with hq; injection hq with _ hq; subst hq
      obtain ⟨e1, e2, e3, e4⟩ := hG i k (idx_spec _ _ _ hi)
      exact .slNil i sz (e4.trans h1) (e3.trans h2)
    · split at hq
      · rw [Option.map_eq_some_iff] at hq
        obtain ⟨cs, hcs, hq⟩ := hq
        injection hq with hq1 hq; subst hq1 hq
        simp only [Nat.zero_mul, List.take_zero]
        exact .d _ _ (.fs0 sz none 0 (Nat.zero_le _))
      · cases hq
  | slOld k sz off n m m' A l c h1 h2 =>
    intro q av' hq hs
    simp only [AV.conv] at hq
    split at hq
    · rename_i i hi
      injection hq with hq; injection hq with _ hq; subst hq
      obtain ⟨e1, e2, e3, e4⟩ := hG i k (idx_spec _ _ _ hi)
      exact .slOld i sz off n m m' A l c (e4.trans h1) h2
    · split at hq
      · rw [Option.map_eq_some_iff] at hq
        obtain ⟨cs, hcs, hq⟩ := hq
        injection hq with hq1 hq; subst hq1 hq
        obtain ⟨kd, hkd, hln⟩ := cellsH_at hcs
        rw [h1] at hln; injection hln with hln
        have := hs.1
        omega
      · cases hq
  | fp l b o f h1 h2 h3 =>
    intro q av' hq _
    simp only [AV.conv] at hq; injection hq with hq; injection hq with _ hq; subst hq
    exact .fp l b o f (hF b h1) h2 fun j u hu => (h3 j u hu).keep hF fun _ _ => rfl
  | agg l cs h1 _ ih =>
    intro q av' hq hs
    simp only [AV.conv] at hq
    rw [Option.map_eq_some_iff] at hq
    obtain ⟨p, hp, hq⟩ := hq
    injection hq with hq1 hq; subst hq1 hq
    obtain ⟨c1, c2⟩ := convL_at hp hs
    exact .agg _ cs (c1.trans h1) fun j u' x hu hx => let ⟨u, q, e1, e2, e3⟩ := c2 j u' hu; ih j u x e1 hx e2 e3
  | tup l cs h1 _ ih =>
    intro q av' hq hs
    simp only [AV.conv] at hq
    rw [Option.map_eq_some_iff] at hq
    obtain ⟨p, hp, hq⟩ := hq
    injection hq with hq1 hq; subst hq1 hq
    obtain ⟨c1, c2⟩ := convL_at hp hs
    exact .tup _ cs (c1.trans h1) fun j u' x hu hx => let ⟨u, q, e1, e2, e3⟩ := c2 j u' hu; ih j u x e1 hx e2 e3
  | clo f l k cs ds h1 h2 _ _ ih1 ih2 =>
    intro q av' hq hs
    simp only [AV.conv] at hq
    split at hq
    · rename_i p1 p2 e1 e2
      injection hq with hq; injection hq with hq1 hq; subst hq1 hq
      obtain ⟨c1, c2⟩ := convL_at e1 hs.1
      obtain ⟨d1, d2⟩ := convL_at e2 hs.2
      exact .clo f _ _ cs ds (c1.trans h1) (d1.trans h2) (fun j u' x hu hx => let ⟨u, q, e1, e2, e3⟩ := c2 j u' hu; ih1 j u x e1 hx e2 e3) fun j u' x hu hx => let ⟨u, q, e1, e2, e3⟩ := d2 j u' hu; ih2 j u x e1 hx e2 e3
    · cases hq
  | g b want u v _ h ih => intro q av' hq _; simp only [AV.conv] at hq; cases hq
/-- back in the caller's words -/
theorem RepV.reb {β : Nat → Nat} {G' : Gh} {ln' : List Nat} {ln : List Nat} (hG : ∀ (i m : Nat), ln'[i]? = some m → G.σ (β i) = G'.σ i ∧ G.bs (β i) = G'.bs i ∧ G.vir (β i) = G'.vir i ∧ ln[β i]? = some m) : ∀ {av v}, RepV G' ln' F w av v → RepV G ln F w (av.reb β) v := by
  intro av v hr
  induction hr with
  | any v => simp only [AV.reb]; exact .any v
  | d av v hd =>
    have hd0 := hd
    cases hd with
    | c v => simp only [AV.reb]; exact .d _ _ hd0
    | fs0 sz A c h => simp only [AV.reb]; exact .d _ _ hd0
    | fs sz n b o c l f h1 h2 h3 h4 h5 h6 => simp only [AV.reb]; exact .d _ _ hd0
  | ptr k off m h1 h2 =>
    obtain ⟨e1, e2, e3, e4⟩ := hG k m h1
    simp only [AV.reb]; rw [← e1]; exact .ptr _ off m e4 (e3.trans h2)
  | ptrOld k off m m' p h1 h2 =>
    obtain ⟨e1, e2, e3, e4⟩ := hG k m' h1
    simp only [AV.reb]; exact .ptrOld _ off m m' p e4 h2
  | sl k sz off n m c h1 h2 h3 h4 h5 =>
    obtain ⟨e1, e2, e3, e4⟩ := hG k m h1
    simp only [AV.reb]; rw [← e1]; exact .sl _ sz off n m c e4 (e3.trans h2) h3 h4 (e2.symm ▸ h5)
  | slNil k sz h1 h2 =>
    obtain ⟨e1, e2, e3, e4⟩ := hG k 0 h1
    simp only [AV.reb]; exact .slNil _ sz e4 (e3.trans h2)
  | slOld k sz off n m m' A l c h1 h2 =>
    obtain ⟨e1, e2, e3, e4⟩ := hG k m' h1
    simp only [AV.reb]; exact .slOld _ sz off n m m' A l c e4 h2
  | fp l b o f h1 h2 h3 => simp only [AV.reb]; exact .fp l b o f h1 h2 h3
  | agg l cs h1 _ ih =>
    simp only [AV.reb]
    exact .agg _ cs (rebL_at.1.trans h1) fun j u' x hu hx => by obtain ⟨u, e1, rfl⟩ := rebL_at.2 j u' hu; exact ih j u x e1 hx
  | tup l cs h1 _ ih =>
    simp only [AV.reb]
    exact .tup _ cs (rebL_at.1.trans h1) fun j u' x hu hx => by obtain ⟨u, e1, rfl⟩ := rebL_at.2 j u' hu; exact ih j u x e1 hx
  | clo f l k cs ds h1 h2 _ _ ih1 ih2 =>
    simp only [AV.reb]
    exact .clo f _ _ cs ds (rebL_at.1.trans h1) (rebL_at.1.trans h2) (fun j u' x hu hx => by obtain ⟨u, e1, rfl⟩ := rebL_at.2 j u' hu; exact ih1 j u x e1 hx) fun j u' x hu hx => by obtain ⟨u, e1, rfl⟩ := rebL_at.2 j u' hu; exact ih2 j u x e1 hx
  | g b want u v _ h ih => simp only [AV.reb]; exact .g b want _ v ih h
theorem rebL_isD {β : Nat → Nat} : ∀ {l : List AV}, l.all isD = true → AV.rebL β l = l := by
  intro l
  induction l with
  | nil => intro _; rfl
  | cons v l ih =>
    intro h
    simp only [List.all_cons, Bool.and_eq_true] at h
    simp only [AV.rebL, ih h.2]
    congr 1
    cases v <;> first | rfl | cases h.1
end
def rebO (β : Nat → Nat) : AObj → AObj
  | .o (.row e sz) cs => if cs.all isD then .o (.row e sz) cs else .o (.row e sz) (AV.rebL β cs)
  | .o k cs => .o k (AV.rebL β cs)
  | .it s p => .it s p
theorem rebO_eq (β : Nat → Nat) (k : AKind) (cs : List AV) : rebO β (.o k cs) = .o k (AV.rebL β cs) := by
  cases k with
  | row e sz =>
    simp only [rebO]
    split
    · rename_i h; rw [rebL_isD h]
    · rfl
  | _ => rfl
theorem rebO_ln (β : Nat → Nat) (x : AObj) : lnO (rebO β x) = lnO x := by
  cases x with
  | it s p => rfl
  | o k cs => rw [rebO_eq]; exact rebL_at.1
theorem rebO_fz (β : Nat → Nat) (x : AObj) : fzO (rebO β x) = fzO x := by
  cases x with
  | it s p => rfl
  | o k cs => rw [rebO_eq]; cases k <;> rfl
def putBack : List AObj → List Nat → List AObj → List AObj
  | h, k :: ks, x :: xs => putBack (h.set k x) ks xs
  | h, _, _ => h
def frzO : AObj → AObj
  | .o _ cs => .o .fz cs
  | x => x
def frzFrom (ok : Nat → Bool) : Nat → List AObj → List AObj
  | _, [] => []
  | i, x :: l => (if ok i then frzO x else x) :: frzFrom ok (i + 1) l
theorem frz_at (ok : Nat → Bool) : ∀ (l : List AObj) (i k : Nat), (frzFrom ok i l)[k]? = (l[k]?).map fun x => if ok (i + k) then frzO x else x := by
  intro l
  induction l with
  | nil => intro i k; simp [frzFrom]
  | cons x l ih =>
    intro i k
    cases k with
    | zero => simp [frzFrom]
    | succ k => simp only [frzFrom, List.getElem?_cons_succ, ih]; rw [show i + 1 + k = i + (k + 1) by omega]
theorem frz_len (ok : Nat → Bool) : ∀ (l : List AObj) (i : Nat), (frzFrom ok i l).length = l.length := by
  intro l
  induction l with
  | nil => intro i; rfl
  | cons x l ih => intro i; simp [frzFrom, ih]
theorem putBack_at : ∀ (lent : List Nat) (xs : List AObj) (h : List AObj), lent.Nodup → (∀ k ∈ lent, k < h.length) → lent.length ≤ xs.length → (putBack h lent xs).length = h.length ∧
    (∀ (i k : Nat), lent[i]? = some k → (putBack h lent xs)[k]? = xs[i]?) ∧ ∀ (k : Nat), k ∉ lent → (putBack h lent xs)[k]? = h[k]? := by
  intro lent
  induction lent with
  | nil => intro xs h _ _ _; exact ⟨by simp [putBack], fun i k hk => by simp at hk, fun k _ => by simp [putBack]⟩
  | cons k0 ks ih =>
    intro xs h hn hl hx
    cases xs with
    | nil => simp at hx
    | cons x xs =>
      simp only [List.nodup_cons] at hn
      obtain ⟨i1, i2, i3⟩ := ih xs (h.set k0 x) hn.2 (fun k hk => by simpa using hl k (by simp [hk])) (by simpa using hx)
      simp only [putBack]
      refine ⟨by simpa using i1, fun i k hk => ?_, fun k hk => ?_⟩
      · cases i with
        | zero =>
          simp at hk; subst hk
          rw [i3 k0 hn.1, List.getElem?_set, if_pos rfl, if_pos (hl k0 (by simp))]
          rfl
        | succ i => simpa using i2 i k (by simpa using hk)
      · simp only [List.mem_cons, not_or] at hk
        rw [i3 k hk.2, List.getElem?_set, if_neg (fun e => hk.1 e.symm)]
/-- where the callee's handles lie in the caller's list -/
def backIx (lent : List Nat) (N i : Nat) : Nat := match lent[i]? with | some k => k | none => N + (i - lent.length)
def afterH (lent : List Nat) (ok : Nat → Bool) (h h' : List AObj) : List AObj := putBack (frzFrom ok 0 h) lent (h'.map (rebO (backIx lent h.length))) ++ (h'.drop lent.length).map (rebO (backIx lent h.length))
def livO (dead : List Nat) : AObj → Bool
  | .o (.row _ _) cs => cs.all isD || AV.livL dead cs
  | .o _ cs => AV.livL dead cs
  | _ => true
def livH (dead lent : List Nat) : Nat → List AObj → Bool
  | _, [] => true
  | i, x :: l => (lent.contains i || livO dead x) && livH dead lent (i + 1) l
theorem livH_at {dead lent : List Nat} : ∀ {l : List AObj} {i : Nat}, livH dead lent i l = true → ∀ k x, l[k]? = some x → i + k ∉ lent → livO dead x = true := by
  intro l
  induction l with
  | nil => intro i _ k x h; simp at h
  | cons y l ih =>
    intro i hl k x hk hn
    simp only [livH, Bool.and_eq_true, Bool.or_eq_true] at hl
    cases k with
    | zero =>
      simp at hk; subst hk
      rcases hl.1 with h | h
      · exact absurd (by simpa using h) hn
      · exact h
    | succ k => exact ih hl.2 k x (by simpa using hk) (by rw [show i + 1 + k = i + (k + 1) by omega]; exact hn)
theorem isD_liv {dead : List Nat} {l : List AV} (h : l.all isD = true) (j : Nat) (u : AV) (hu : l[j]? = some u) : u.liv dead = true := by
  have := List.all_eq_true.1 h u (List.mem_of_getElem? hu)
  cases u <;> first | rfl | cases this
theorem livO_at {dead : List Nat} {kd : AKind} {cs : List AV} (h : livO dead (.o kd cs) = true) (j : Nat) (u : AV) (hu : cs[j]? = some u) : u.liv dead = true := by
  cases kd with
  | row e sz =>
    simp only [livO, Bool.or_eq_true] at h
    rcases h with h | h
    · exact isD_liv h j u hu
    · exact livL_at h j u hu
  | _ => exact livL_at h j u hu
theorem convOs_at {ρ : List Nat} {ok : Nat → Bool} {h : List AObj} : ∀ {l : List Nat} {p : Prop × List AObj}, convOs ρ ok h l = some p → p.1 → p.2.length = l.length ∧ ∀ (i k : Nat), l[i]? = some k → ∃ x q y, h[k]? = some x ∧ convO ρ ok h x = some (q, y) ∧ q ∧ p.2[i]? = some y := by
  intro l
  induction l with
  | nil => intro p hp _; simp only [convOs] at hp; injection hp with hp; subst hp; exact ⟨rfl, fun i k h => by simp at h⟩
  | cons k0 l ih =>
    intro p hp hs
    simp only [convOs] at hp
    split at hp
    · rename_i p1 q1 e1 e2
      injection hp with hp; subst hp
      rw [Option.bind_eq_some_iff] at e1
      obtain ⟨x, hx, hcx⟩ := e1
      obtain ⟨i1, i2⟩ := ih e2 hs.2
      refine ⟨by simp [i1], fun i k hk => ?_⟩
      cases i with
      | zero => simp at hk; subst hk; exact ⟨x, p1.1, p1.2, hx, hcx, hs.1, rfl⟩
      | succ i => simpa using i2 i k (by simpa using hk)
    · cases hp
theorem convO_kind {ρ : List Nat} {ok : Nat → Bool} {h : List AObj} {x y : AObj} {q : Prop} (hc : convO ρ ok h x = some (q, y)) (hq : q) : lnO y = lnO x ∧ fzO x = false ∧ fzO y = false := by
  cases x with
  | it s p => cases hc
  | o kd cs =>
    cases kd with
    | box =>
      simp only [convO] at hc
      rw [Option.map_eq_some_iff] at hc
      obtain ⟨p, hp, hc⟩ := hc
      injection hc with h1 h2; subst h1 h2
      exact ⟨(convL_at hp hq).1, rfl, rfl⟩
    | row e sz => simp only [convO] at hc; injection hc with hc; injection hc with h1 h2; subst h1 h2; exact ⟨rfl, rfl, rfl⟩
    | fz => cases hc
def Gn (G G' : Gh) (lent : List Nat) (N : Nat) : Gh :=
  ⟨fun k => match idx lent k with | some i => G'.σ i | none => if k < N then G.σ k else G'.σ (k - N + lent.length),
   fun k => match idx lent k with | some i => G'.bs i | none => if k < N then G.bs k else G'.bs (k - N + lent.length),
   fun k => match idx lent k with | some i => G'.vir i | none => if k < N then G.vir k else G'.vir (k - N + lent.length)⟩
theorem Gn_old (G G' : Gh) {lent : List Nat} {N k : Nat} (h : k ∉ lent) (hk : k < N) : (Gn G G' lent N).σ k = G.σ k ∧ (Gn G G' lent N).bs k = G.bs k ∧ (Gn G G' lent N).vir k = G.vir k := by
  have : idx lent k = none := by
    cases e : idx lent k with
    | none => rfl
    | some i => exact absurd (List.mem_of_getElem? (idx_spec _ _ _ e)) h
  simp [Gn, this, hk]
theorem Gn_back (G G' : Gh) {lent : List Nat} {N : Nat} (hn : lent.Nodup) (hl : ∀ k ∈ lent, k < N) (i : Nat) : (Gn G G' lent N).σ (backIx lent N i) = G'.σ i ∧ (Gn G G' lent N).bs (backIx lent N i) = G'.bs i ∧ (Gn G G' lent N).vir (backIx lent N i) = G'.vir i := by
  unfold backIx
  cases e : lent[i]? with
  | some k => simp [Gn, idx_of_get _ _ _ hn e]
  | none =>
    have hi : lent.length ≤ i := by
      rcases Nat.lt_or_ge i lent.length with h | h
      · rw [List.getElem?_eq_getElem h] at e; cases e
      · exact h
    have hx : idx lent (N + (i - lent.length)) = none := by
      cases e' : idx lent (N + (i - lent.length)) with
      | none => rfl
      | some j => have := hl _ (List.mem_of_getElem? (idx_spec _ _ _ e')); omega
    have h1 : ¬ N + (i - lent.length) < N := by omega
    have h2 : N + (i - lent.length) - N + lent.length = i := by omega
    have h3 : i - lent.length + lent.length = i := by omega
    simp [Gn, hx, h1, h3]
section
variable {P : Program} {E : Env} {s : AS}
theorem after_back {lent : List Nat} {ok : Nat → Bool} {h h' : List AObj} (hn : lent.Nodup) (hl : ∀ k ∈ lent, k < h.length) (hh : lent.length ≤ h'.length) (i : Nat) : (afterH lent ok h h')[backIx lent h.length i]? = (h'[i]?).map (rebO (backIx lent h.length)) := by
  obtain ⟨p1, p2, p3⟩ := putBack_at lent (h'.map (rebO (backIx lent h.length))) (frzFrom ok 0 h) hn (fun k hk => by rw [frz_len]; exact hl k hk) (by simpa using hh)
  rw [frz_len] at p1
  unfold afterH
  cases e : lent[i]? with
  | some k =>
    have hb : backIx lent h.length i = k := by simp [backIx, e]
    rw [hb, List.getElem?_append_left (by rw [p1]; exact hl k (List.mem_of_getElem? e)), p2 i k e, List.getElem?_map]
  | none =>
    have hi : lent.length ≤ i := by
      rcases Nat.lt_or_ge i lent.length with h | h
      · rw [List.getElem?_eq_getElem h] at e; cases e
      · exact h
    have hb : backIx lent h.length i = h.length + (i - lent.length) := by simp [backIx, e]
    have h0 : (putBack (frzFrom ok 0 h) lent (h'.map (rebO (backIx lent h.length))))[backIx lent h.length i]? = none := List.getElem?_eq_none (by rw [p1, hb]; omega)
    rw [List.getElem?_append_right (by rw [p1, hb]; omega), p1, List.getElem?_map, List.getElem?_drop]
    congr 2
    omega
theorem after_old {lent : List Nat} {ok : Nat → Bool} {h h' : List AObj} (hn : lent.Nodup) (hl : ∀ k ∈ lent, k < h.length) (hh : lent.length ≤ h'.length) {k : Nat} (hk : k ∉ lent) (hlt : k < h.length) : (afterH lent ok h h')[k]? = (h[k]?).map fun x => if ok k then frzO x else x := by
  obtain ⟨p1, p2, p3⟩ := putBack_at lent (h'.map (rebO (backIx lent h.length))) (frzFrom ok 0 h) hn (fun k hk => by rw [frz_len]; exact hl k hk) (by simpa using hh)
  rw [frz_len] at p1
  unfold afterH
  rw [List.getElem?_append_left (by rw [p1]; exact hlt), p3 k hk, frz_at, Nat.zero_add]
theorem after_cases {lent : List Nat} {ok : Nat → Bool} {h h' : List AObj} (hn : lent.Nodup) (hl : ∀ k ∈ lent, k < h.length) (hh : lent.length ≤ h'.length) {k : Nat} {x : AObj} (hx : (afterH lent ok h h')[k]? = some x) :
    (∃ i y, k = backIx lent h.length i ∧ h'[i]? = some y ∧ x = rebO (backIx lent h.length) y) ∨ (k ∉ lent ∧ k < h.length ∧ ∃ y, h[k]? = some y ∧ x = if ok k then frzO y else y) := by
  by_cases hlt : k < h.length
  · by_cases hk : k ∈ lent
    · obtain ⟨i, hi, e⟩ := List.mem_iff_getElem.1 hk
      have e' : lent[i]? = some k := by rw [List.getElem?_eq_getElem hi, e]
      have hb : backIx lent h.length i = k := by simp [backIx, e']
      have := after_back (ok := ok) hn hl hh i
      rw [hb, hx] at this
      cases hy : h'[i]? with
      | none => rw [hy] at this; cases this
      | some y => rw [hy] at this; injection this with this; exact .inl ⟨i, y, hb.symm, hy, this⟩
    · rw [after_old hn hl hh hk hlt] at hx
      rw [Option.map_eq_some_iff] at hx
      obtain ⟨y, hy, e⟩ := hx
      exact .inr ⟨hk, hlt, y, hy, e.symm⟩
  · have hb : backIx lent h.length (k - h.length + lent.length) = k := by
      have : lent[k - h.length + lent.length]? = none := List.getElem?_eq_none (by omega)
      simp only [backIx, this]; omega
    have := after_back (ok := ok) hn hl hh (k - h.length + lent.length)
    rw [hb, hx] at this
    cases hy : h'[k - h.length + lent.length]? with
    | none => rw [hy] at this; cases this
    | some y => rw [hy] at this; injection this with this; exact .inl ⟨_, y, hb.symm, hy, this⟩
/-- **A call by its contract.** lent: the handles that the callee gets, in its order; ok: the rows that it gets as data (they stay as they are from then on); dead: rows of lent objects that may be laid anew. -/
theorem call_of {g : FuncId} {args : List AV} {K : AV → AS → Prop} (lent : List Nat) (ok : Nat → Bool) (dead : List Nat) {cargs : List AV} {ch : List AObj} {st : Nat → Bool} {Post : AV → List AObj → Prop} (hc : ACalls P g cargs ch st Post)
    {pa po : Prop} (ha : AV.convL lent ok s.h args = some (pa, cargs)) (hpa : pa) (ho : convOs lent ok s.h lent = some (po, ch)) (hpo : po) (hn : lent.Nodup) (hok : ∀ k ∈ lent, ok k = false)
    (hst : ∀ (i k : Nat), lent[i]? = some k → st i = true ∨ k ∈ dead) (hdt : AV.livL dead s.t = true) (hdo : livH dead lent 0 s.h = true) (hde : ∀ k ∈ dead, E.st k = false ∨ E.ln0.length ≤ k) (hho : ∀ k ∈ lent, E.ho k = false) (hoo : ∀ k, ok k = true → E.ho k = false)
    (hK : ∀ r h', Post r h' → lent.length ≤ h'.length ∧ K (r.reb (backIx lent s.h.length)) ⟨s.t, afterH lent ok s.h h'⟩) : CallG P E g args s K := by
  intro G F a w vs hr hl hrep
  obtain ⟨o1, o2⟩ := convOs_at ho hpo
  have hlt : ∀ k ∈ lent, k < s.h.length := fun k hk => by
    obtain ⟨i, hi, e⟩ := List.mem_iff_getElem.1 hk
    obtain ⟨x, q, y, hx, _⟩ := o2 i k (by rw [List.getElem?_eq_getElem hi, e])
    exact (List.getElem?_eq_some_iff.1 hx).1
  have gd : ∀ {i k : Nat}, lent[i]? = some k → lent.getD i 0 = k := fun {i k} e => by simp [List.getD, e]
  let Gc : Gh := ⟨fun i => G.σ (lent.getD i 0), fun i => G.bs (lent.getD i 0), fun i => G.vir (lent.getD i 0)⟩
  let Fc : Nat → Prop := fun b => F b ∨ ∃ k kd cs, s.h[k]? = some (.o kd cs) ∧ ok k = true ∧ G.vir k = false ∧ b = G.σ k
  have hG : ∀ (i k : Nat), lent[i]? = some k → Gc.σ i = G.σ k ∧ Gc.bs i = G.bs k ∧ Gc.vir i = G.vir k ∧ (lens ch)[i]? = (lens s.h)[k]? := fun i k e => by
    obtain ⟨x, q, y, hx, hcx, hq, hy⟩ := o2 i k e
    refine ⟨by simp [Gc, e], by simp [Gc, e], by simp [Gc, e], ?_⟩
    simp only [lens, List.getElem?_map]
    rw [hx]
    simp only at hy
    rw [hy]
    simp [(convO_kind hcx hq).1]
  have hFF : ∀ b, F b → Fc b := fun b hb => .inl hb
  have hFok : ∀ k kd cs, s.h[k]? = some (.o kd cs) → ok k = true → G.vir k = false → Fc (G.σ k) := fun k kd cs h1 h2 h3 => .inr ⟨k, kd, cs, h1, h2, h3, rfl⟩
  have nFc : ∀ {k : Nat} {x : AObj}, s.h[k]? = some x → ok k = false → G.vir k = false → fzO x = false → ¬ Fc (G.σ k) := fun {k x} hk hok' hv hf hF => by
    rcases hF with h1 | ⟨k', kd, cs, h1, h2, h3, h4⟩
    · exact hr.heap.nfz hk hv hf h1
    · by_cases hz : fzO (.o kd cs) = false
      · have := hr.heap.inj k k' x _ hk h1 hv h3 hf hz h4
        rw [this] at hok'; rw [h2] at hok'; cases hok'
      · have hob := hr.heap.obj k' _ h1
        cases kd with
        | box => exact hz rfl
        | row e sz => exact hz rfl
        | fz =>
          rcases hob with ⟨e1, _⟩ | ⟨_, e1, _⟩
          · rw [h3] at e1; cases e1
          · exact hr.heap.nfz hk hv hf (h4 ▸ e1)
  have chG : ∀ {i : Nat} {y : AObj}, ch[i]? = some y → ∃ k x q, lent[i]? = some k ∧ s.h[k]? = some x ∧ convO lent ok s.h x = some (q, y) ∧ q := fun {i y} hy => by
    have hi : i < lent.length := by
      have h1 := (List.getElem?_eq_some_iff.1 hy).1
      simp only at o1
      omega
    obtain ⟨x, q, y', hx, hcx, hq, hy'⟩ := o2 i lent[i] (List.getElem?_eq_getElem hi)
    simp only at hy'
    rw [hy] at hy'; injection hy' with hy'; subst hy'
    exact ⟨lent[i], x, q, List.getElem?_eq_getElem hi, hx, hcx, hq⟩
  have conv1 : ∀ {av : AV} {v : Value}, RepV G (lens s.h) F w av v → ∀ {q : Prop} {av' : AV}, AV.conv lent ok s.h av = some (q, av') → q → RepV Gc (lens ch) Fc w av' v := fun h => RepV.conv hr.heap hG hFF hFok h
  have hHc : HRel Gc Fc ch w := by
    refine ⟨fun i y hy => ?_, fun i j y z hy hz vi vj _ _ he => ?_⟩
    · obtain ⟨k, x, q, hk, hx, hcx, hq⟩ := chG hy
      obtain ⟨e1, e2, e3, e4⟩ := hG i k hk
      have hokk := hok k (List.mem_of_getElem? hk)
      have hob := hr.heap.obj k x hx
      cases x with
      | it s p => cases hcx
      | o kd cs =>
        cases kd with
        | fz => cases hcx
        | box =>
          simp only [convO] at hcx
          rw [Option.map_eq_some_iff] at hcx
          obtain ⟨p, hp, hcx⟩ := hcx
          injection hcx with h1 h2; subst h1 h2
          obtain ⟨c1, c2⟩ := convL_at hp hq
          obtain ⟨a1, a2, cur, ty, a3, a4, a5, a6⟩ := hob
          refine ⟨e3.trans a1, by rw [e1]; exact nFc hx hokk a1 rfl, cur, ty, by rw [e1]; exact a3, by rw [e2]; exact a4, by rw [e2, c1]; exact a5, fun j u' hu => ?_⟩
          obtain ⟨u, q', f1, f2, f3⟩ := c2 j u' hu
          obtain ⟨v, f4, f5⟩ := a6 j u f1
          exact ⟨v, f4, conv1 f5 f2 f3⟩
        | row e sz =>
          simp only [convO] at hcx
          injection hcx with hcx; injection hcx with h1 h2; subst h1 h2
          rcases hob with ⟨a1, a2⟩ | ⟨a1, a2, cur, c, a3, a4, a5, a6, a7, a8⟩
          · exact .inl ⟨e3.trans a1, a2⟩
          · refine .inr ⟨e3.trans a1, by rw [e1]; exact nFc hx hokk a1 rfl, cur, c, by rw [e1]; exact a3, by rw [e2]; exact a4, by rw [e2]; exact a5, a6, by rw [e2]; exact a7, fun j u hu => ?_⟩
            obtain ⟨v, f4, f5⟩ := a8 j u hu
            exact ⟨v, f4, .d _ _ ((isD_rep (List.all_eq_true.1 hq u (List.mem_of_getElem? hu)) f5).keep hFF fun _ _ => rfl)⟩
    · obtain ⟨k, x, q, hk, hx, hcx, hq⟩ := chG hy
      obtain ⟨k', x', q', hk', hx', hcx', hq'⟩ := chG hz
      obtain ⟨e1, _, e3, _⟩ := hG i k hk
      obtain ⟨e1', _, e3', _⟩ := hG j k' hk'
      have := hr.heap.inj k k' x x' hx hx' (e3 ▸ vi) (e3' ▸ vj) (convO_kind hcx hq).2.1 (convO_kind hcx' hq').2.1 (by rw [← e1, ← e1']; exact he)
      subst this
      have h1 := idx_of_get _ _ _ hn hk
      have h2 := idx_of_get _ _ _ hn hk'
      rw [h1] at h2; injection h2
  have hFlt : FC Fc w := fun b hb => by
    rcases hb with h1 | ⟨k, kd, cs, h1, _, h3, rfl⟩
    · exact hr.fc b h1
    · exact hr.heap.isCells h1 h3
  obtain ⟨ca1, ca2⟩ := convL_at ha hpa
  refine (hc Gc Fc w vs hHc hFlt ⟨ca1.trans hl, fun j u' x hu hx => ?_⟩).mono fun e w' ⟨x, r, h', G', F', he, hf, hrr, hsame, hpost⟩ => ?_
  · obtain ⟨u, q, f1, f2, f3⟩ := ca2 j u' hu
    exact conv1 (hrep j u x f1 hx) f2 f3
  obtain ⟨hlen, hKK⟩ := hK r h' hpost
  -- lent blocks
  have hLc : ∀ b, lentB Gc ch b → ∃ k x, k ∈ lent ∧ s.h[k]? = some x ∧ G.vir k = false ∧ fzO x = false ∧ b = G.σ k := fun b ⟨i, y, hy, hv, hfz, hb⟩ => by
    obtain ⟨k, x, q, hk, hx, hcx, hq⟩ := chG hy
    obtain ⟨e1, _, e3, _⟩ := hG i k hk
    exact ⟨k, x, List.mem_of_getElem? hk, hx, e3 ▸ hv, (convO_kind hcx hq).2.1, by rw [hb, e1]⟩
  have hLF : ∀ b, Fc b → ¬ lentB Gc ch b := fun b hb hL => by
    obtain ⟨k, x, hk, hx, hv, hfz, rfl⟩ := hLc b hL
    exact nFc hx (hok k hk) hv hfz hb
  have keepB : ∀ b, b < w.heap.size → ¬ lentB Gc ch b → w'.heap[b]? = w.heap[b]? := fun b hb hn => hf.mod.block b hb hn
  have keepF : ∀ b, F b → w'.heap[b]? = w.heap[b]? := fun b hb => keepB b (hr.flt b hb) (hLF b (.inl hb))
  have hF' : ∀ b, F b → F' b := fun b hb => hf.f0 b (.inl hb)
  have hback : ∀ (i m : Nat), (lens h')[i]? = some m → (Gn G G' lent s.h.length).σ (backIx lent s.h.length i) = G'.σ i ∧ (Gn G G' lent s.h.length).bs (backIx lent s.h.length i) = G'.bs i ∧ (Gn G G' lent s.h.length).vir (backIx lent s.h.length i) = G'.vir i ∧
      (lens (afterH lent ok s.h h'))[backIx lent s.h.length i]? = some m := fun i m hm => by
    obtain ⟨g1, g2, g3⟩ := Gn_back G G' hn hlt i
    refine ⟨g1, g2, g3, ?_⟩
    simp only [lens, List.getElem?_map] at hm ⊢
    rw [after_back hn hlt hlen, Option.map_map]
    rw [Option.map_eq_some_iff] at hm ⊢
    obtain ⟨y, hy, rfl⟩ := hm
    exact ⟨y, hy, rebO_ln _ _⟩
  have hlater : ∀ (k m : Nat), k ∉ dead → (lens s.h)[k]? = some m → ((lens (afterH lent ok s.h h'))[k]? = some m ∧ (Gn G G' lent s.h.length).σ k = G.σ k ∧ (Gn G G' lent s.h.length).bs k = G.bs k ∧ (Gn G G' lent s.h.length).vir k = G.vir k) ∨ ∃ m', (lens (afterH lent ok s.h h'))[k]? = some m' ∧ m < m' := fun k m hd hm => by
    have hkl : k < s.h.length := by
      have := (List.getElem?_eq_some_iff.1 hm).1
      simpa [lens] using this
    by_cases hk : k ∈ lent
    · obtain ⟨i, hi, e⟩ := List.mem_iff_getElem.1 hk
      have e' : lent[i]? = some k := by rw [List.getElem?_eq_getElem hi, e]
      obtain ⟨c1, c2, c3, c4⟩ := hG i k e'
      have hb : backIx lent s.h.length i = k := by simp [backIx, e']
      rcases hsame i m ((hst i k e').resolve_right hd) (c4.trans hm) with ⟨f1, f2, f3, f4⟩ | ⟨m', f1, f2⟩
      · obtain ⟨b1, b2, b3, b4⟩ := hback i m f1
        rw [hb] at b1 b2 b3 b4
        exact .inl ⟨b4, b1.trans (f2.trans c1), b2.trans (f3.trans c2), b3.trans (f4.trans c3)⟩
      · obtain ⟨b1, b2, b3, b4⟩ := hback i m' f1
        rw [hb] at b4
        exact .inr ⟨m', b4, f2⟩
    · obtain ⟨g1, g2, g3⟩ := Gn_old G G' hk hkl
      refine .inl ⟨?_, g1, g2, g3⟩
      simp only [lens, List.getElem?_map] at hm ⊢
      rw [after_old hn hlt hlen hk hkl, Option.map_map]
      rw [Option.map_eq_some_iff] at hm ⊢
      obtain ⟨y, hy, rfl⟩ := hm
      refine ⟨y, hy, ?_⟩
      simp only [Function.comp]
      split
      · cases y <;> rfl
      · rfl
  have keepV : ∀ {av : AV} {v : Value}, RepV G (lens s.h) F w av v → av.liv dead = true → RepV (Gn G G' lent s.h.length) (lens (afterH lent ok s.h h')) F' w' av v := fun h hv => RepV.keepL hlater hF' keepF h hv
  have rebV : ∀ {av : AV} {v : Value}, RepV G' (lens h') F' w' av v → RepV (Gn G G' lent s.h.length) (lens (afterH lent ok s.h h')) F' w' (av.reb (backIx lent s.h.length)) v := fun h => RepV.reb hback h
  have nF' : ∀ {k : Nat} {x : AObj}, s.h[k]? = some x → k ∉ lent → ok k = false → G.vir k = false → fzO x = false → ¬ F' (G.σ k) ∧ ¬ lentB Gc ch (G.σ k) := fun {k x} hk hkl hok' hv hfz => by
    have hnL : ¬ lentB Gc ch (G.σ k) := fun hL => by
      obtain ⟨k', x', hk', hx', hv', hfz', he'⟩ := hLc _ hL
      have := hr.heap.inj k k' x x' hk hx' hv hv' hfz hfz' he'
      exact hkl (this ▸ hk')
    refine ⟨fun hF1 => ?_, hnL⟩
    rcases hf.fsup _ hF1 with h1 | h1 | h1
    · exact nFc hk hok' hv hfz h1
    · exact hnL h1
    · have h2 := hr.heap.lt hk hv
      have h3 : w.heap.size ≤ G.σ k := h1
      omega
  have crel : ∀ {cs : List AV} {cur : Array Value}, CRel G (lens s.h) F w cs cur → (∀ (j : Nat) (u : AV), cs[j]? = some u → u.liv dead = true) → CRel (Gn G G' lent s.h.length) (lens (afterH lent ok s.h h')) F' w' cs cur := fun h1 h2 j u hu => let ⟨v, f1, f2⟩ := h1 j u hu; ⟨v, f1, keepV f2 (h2 j u hu)⟩
  have crelB : ∀ {cs : List AV} {cur : Array Value}, CRel G' (lens h') F' w' cs cur → CRel (Gn G G' lent s.h.length) (lens (afterH lent ok s.h h')) F' w' (AV.rebL (backIx lent s.h.length) cs) cur := fun h1 j u' hu => by
    obtain ⟨u, e1, rfl⟩ := rebL_at.2 j u' hu
    obtain ⟨v, f1, f2⟩ := h1 j u e1
    exact ⟨v, f1, rebV f2⟩
  have hHn : HRel (Gn G G' lent s.h.length) F' (afterH lent ok s.h h') w' := by
    refine ⟨fun k x hx => ?_, fun j k x y hj hk vj vk fj fk hes => ?_⟩
    · rcases after_cases hn hlt hlen hx with ⟨i, y, rfl, hy, rfl⟩ | ⟨hkl, hkn, y, hy, rfl⟩
      · obtain ⟨g1, g2, g3⟩ := Gn_back G G' hn hlt i
        have hob := hf.heap.obj i y hy
        cases y with
        | it sx p => exact ⟨g3.trans hob.1, by rw [g1]; exact hob.2.1, by rw [g1]; exact hob.2.2⟩
        | o kd cs =>
          rw [rebO_eq]
          have hrl : (AV.rebL (backIx lent s.h.length) cs).length = cs.length := rebL_at.1
          cases kd with
          | box =>
            obtain ⟨a1, a2, cur, ty, a3, a4, a5, a6⟩ := hob
            exact ⟨g3.trans a1, by rw [g1]; exact a2, cur, ty, by rw [g1]; exact a3, by rw [g2]; exact a4, by rw [g2, hrl]; exact a5, crelB a6⟩
          | row e sz =>
            rcases hob with ⟨a1, a2⟩ | ⟨a1, a2, cur, c, a3, a4, a5, a6, a7, a8⟩
            · exact .inl ⟨g3.trans a1, by rw [a2]; rfl⟩
            · exact .inr ⟨g3.trans a1, by rw [g1]; exact a2, cur, c, by rw [g1]; exact a3, by rw [g2]; exact a4, by rw [g2]; exact a5, a6, by rw [g2, hrl]; exact a7, crelB a8⟩
          | fz =>
            rcases hob with ⟨a1, a2⟩ | ⟨a1, a2, cur, ty, fr, a3, a4, a5, a6⟩
            · exact .inl ⟨g3.trans a1, by rw [a2]; rfl⟩
            · exact .inr ⟨g3.trans a1, by rw [g1]; exact a2, cur, ty, fr, by rw [g1]; exact a3, by rw [g2]; exact a4, by rw [hrl]; exact a5, crelB a6⟩
      · obtain ⟨g1, g2, g3⟩ := Gn_old G G' hkl hkn
        have hlv := livH_at hdo k y hy (by simpa using hkl)
        have hob := hr.heap.obj k y hy
        have sameB : G.vir k = false → fzO y = false → w'.heap[G.σ k]? = w.heap[G.σ k]? := fun hv hfz => keepB _ (hr.heap.lt hy hv) fun hL => by
          obtain ⟨k', x', hk', hx', hv', hfz', he'⟩ := hLc _ hL
          have := hr.heap.inj k k' y x' hy hx' hv hv' hfz hfz' he'
          exact hkl (this ▸ hk')
        cases y with
        | it sx p =>
          have : (if ok k then frzO (.it sx p) else .it sx p) = AObj.it sx p := by split <;> rfl
          rw [this]
          refine ⟨g3.trans hob.1, ?_, by rw [g1, sameB hob.1 rfl]; exact hob.2.2⟩
          rw [g1]
          intro hF1
          rcases hf.fsup _ hF1 with h1 | h1 | h1
          · rcases h1 with h1 | ⟨k', kd, cs, h1, h2, h3, h4⟩
            · exact hob.2.1 h1
            · have hz := hr.heap.lt h1 h3
              by_cases hzf : fzO (.o kd cs) = false
              · have := hr.heap.inj k k' _ _ hy h1 hob.1 h3 rfl hzf h4
                subst this
                rw [hy] at h1; cases h1
              · have hob' := hr.heap.obj k' _ h1
                cases kd with
                | box => exact hzf rfl
                | row e sz => exact hzf rfl
                | fz =>
                  rcases hob' with ⟨e1, _⟩ | ⟨_, e1, _⟩
                  · rw [h3] at e1; cases e1
                  · exact hob.2.1 (h4 ▸ e1)
          · obtain ⟨k', x', hk', hx', hv', hfz', he'⟩ := hLc _ h1
            have := hr.heap.inj k k' _ x' hy hx' hob.1 hv' rfl hfz' he'
            exact hkl (this ▸ hk')
          · have h2 := hr.heap.lt hy hob.1
            have h3 : w.heap.size ≤ G.σ k := h1
            omega
        | o kd cs =>
          have hlc := livO_at hlv
          cases hokk : ok k with
          | true =>
            simp only [if_true, frzO]
            by_cases hv : G.vir k = true
            · have hcs : cs = [] := by
                cases kd with
                | box => rw [hob.1] at hv; cases hv
                | row e sz => rcases hob with ⟨_, e1⟩ | ⟨e1, _⟩; exact e1; rw [e1] at hv; cases hv
                | fz => rcases hob with ⟨_, e1⟩ | ⟨e1, _⟩; exact e1; rw [e1] at hv; cases hv
              exact .inl ⟨g3.trans hv, hcs⟩
            · have hv : G.vir k = false := by simpa using hv
              obtain ⟨cur, ty, fr, b1, b2, b3⟩ := hr.heap.cells hy hv
              have hbs : cur.size = G.bs k := by
                cases kd with
                | box => obtain ⟨_, _, cur', ty', q1, q2, _⟩ := hob; unfold Blk at q1; rw [b1] at q1; injection q1 with q1; injection q1 with q1 _ _; rw [q1]; exact q2
                | row e sz =>
                  rcases hob with ⟨e1, _⟩ | ⟨_, _, cur', c, q1, q2, _⟩
                  · rw [hv] at e1; cases e1
                  · unfold Blk at q1; rw [b1] at q1; injection q1 with q1; injection q1 with q1 _ _; rw [q1]; exact q2
                | fz =>
                  rcases hob with ⟨e1, _⟩ | ⟨_, _, cur', ty', fr', q1, q2, _⟩
                  · rw [hv] at e1; cases e1
                  · rw [b1] at q1; injection q1 with q1; injection q1 with q1 _ _; rw [q1]; exact q2
              have hFk : Fc (G.σ k) := hFok k kd cs hy hokk hv
              exact .inr ⟨g3.trans hv, by rw [g1]; exact hf.f0 _ hFk, cur, ty, fr, by rw [g1, keepB _ (hr.heap.lt hy hv) (hLF _ hFk)]; exact b1, by rw [g2]; exact hbs, b2, crel b3 hlc⟩
          | false =>
            simp only [Bool.false_eq_true, if_false]
            cases kd with
            | box =>
              obtain ⟨a1, a2, cur, ty, a3, a4, a5, a6⟩ := hob
              exact ⟨g3.trans a1, by rw [g1]; exact (nF' hy hkl hokk a1 rfl).1, cur, ty, by rw [g1]; exact (sameB a1 rfl).trans a3, by rw [g2]; exact a4, by rw [g2]; exact a5, crel a6 hlc⟩
            | row e sz =>
              rcases hob with ⟨a1, a2⟩ | ⟨a1, a2, cur, c, a3, a4, a5, a6, a7, a8⟩
              · exact .inl ⟨g3.trans a1, a2⟩
              · exact .inr ⟨g3.trans a1, by rw [g1]; exact (nF' hy hkl hokk a1 rfl).1, cur, c, by rw [g1]; exact (sameB a1 rfl).trans a3, by rw [g2]; exact a4, by rw [g2]; exact a5, a6, by rw [g2]; exact a7, crel a8 hlc⟩
            | fz =>
              rcases hob with ⟨a1, a2⟩ | ⟨a1, a2, cur, ty, fr, a3, a4, a5, a6⟩
              · exact .inl ⟨g3.trans a1, a2⟩
              · exact .inr ⟨g3.trans a1, by rw [g1]; exact hF' _ a2, cur, ty, fr, by rw [g1]; exact (keepF _ a2).trans a3, by rw [g2]; exact a4, a5, crel a6 hlc⟩
    · rcases after_cases hn hlt hlen hj with ⟨i, z, hji, hz, hzx⟩ | ⟨hjl, hjn, z, hz, hzx⟩ <;> rcases after_cases hn hlt hlen hk with ⟨i', z', hki, hz', hzx'⟩ | ⟨hkl, hkn, z', hz', hzx'⟩
      · subst hji hki hzx hzx'
        obtain ⟨g1, _, g3⟩ := Gn_back G G' hn hlt i
        obtain ⟨g1', _, g3'⟩ := Gn_back G G' hn hlt i'
        have := hf.heap.inj i i' z z' hz hz' (g3 ▸ vj) (g3' ▸ vk) (by rw [rebO_fz] at fj; exact fj) (by rw [rebO_fz] at fk; exact fk) (by rw [← g1, ← g1']; exact hes)
        rw [this]
      · exfalso
        subst hji hzx
        obtain ⟨g1, _, g3⟩ := Gn_back G G' hn hlt i
        obtain ⟨g1', _, g3'⟩ := Gn_old G G' hkl hkn
        have hvk := g3' ▸ vk
        have hfz : fzO z' = false := by
          rw [hzx'] at fk
          split at fk
          · cases z' with
            | it _ _ => rfl
            | o _ _ => cases fk
          · exact fk
        have hlk := hr.heap.lt hz' hvk
        rw [g1, g1'] at hes
        rcases hf.sup i z hz (g3 ▸ vj) (by rw [rebO_fz] at fj; exact fj) rfl with h1 | h1
        · obtain ⟨k', x', hk', hx', hv', hfz', he'⟩ := hLc _ h1
          have := hr.heap.inj k k' z' x' hz' hx' hvk hv' hfz hfz' (by rw [← hes]; exact he')
          exact hkl (this ▸ hk')
        · have h2 : w.heap.size ≤ G'.σ i := h1
          omega
      · exfalso
        subst hki hzx'
        obtain ⟨g1, _, g3⟩ := Gn_back G G' hn hlt i'
        obtain ⟨g1', _, g3'⟩ := Gn_old G G' hjl hjn
        have hvk := g3' ▸ vj
        have hfz : fzO z = false := by
          rw [hzx] at fj
          split at fj
          · cases z with
            | it _ _ => rfl
            | o _ _ => cases fj
          · exact fj
        have hlk := hr.heap.lt hz hvk
        rw [g1, g1'] at hes
        rcases hf.sup i' z' hz' (g3 ▸ vk) (by rw [rebO_fz] at fk; exact fk) rfl with h1 | h1
        · obtain ⟨k', x', hk', hx', hv', hfz', he'⟩ := hLc _ h1
          have := hr.heap.inj j k' z x' hz hx' hvk hv' hfz hfz' (by rw [hes]; exact he')
          exact hjl (this ▸ hk')
        · have h2 : w.heap.size ≤ G'.σ i' := h1
          omega
      · obtain ⟨g1, _, g3⟩ := Gn_old G G' hjl hjn
        obtain ⟨g1', _, g3'⟩ := Gn_old G G' hkl hkn
        have fz : ∀ {z : AObj} {b : Bool} {x : AObj}, x = (if b then frzO z else z) → fzO x = false → fzO z = false := fun {z b x} e hx => by
          subst e
          split at hx
          · cases z with
            | it _ _ => rfl
            | o _ _ => cases hx
          · exact hx
        exact hr.heap.inj j k z z' hz hz' (g3 ▸ vj) (g3' ▸ vk) (fz hzx fj) (fz hzx' fk) (by rw [← g1, ← g1']; exact hes)
  have hLE : ∀ b, lentB Gc ch b → E.L b ∨ E.w0.heap.size ≤ b := fun b hL => by
    obtain ⟨k', x', hk', hx', hv', hfz', rfl⟩ := hLc _ hL
    exact hr.sup k' x' hx' hv' hfz' (hho k' hk')
  have hws : E.w0.heap.size ≤ w.heap.size := hr.mod.size
  refine ⟨x, _, ⟨s.t, afterH lent ok s.h h'⟩, Gn G G' lent s.h.length, F', he, ?_, rebV hrr, hKK⟩
  have hmk : ∀ D, ¬ F D → w.heap[D]? = some (.deferred (some [])) → ¬ F' D ∧ w'.heap[D]? = w.heap[D]? := fun D h1 h2 => by
    have hD := lt_of_heap h2
    have nL : ¬ lentB Gc ch D := fun hL => by
      obtain ⟨k', x', _, hx', hv', _, he'⟩ := hLc _ hL
      exact hr.heap.notDef hx' hv' (by rw [← he']; exact h2)
    refine ⟨fun h3 => ?_, hf.mod.block D hD nL⟩
    rcases hf.fsup D h3 with h4 | h4 | h4
    · rcases h4 with h4 | ⟨k, kd, cs, h5, h6, h7, h8⟩
      · exact h1 h4
      · exact hr.heap.notDef h5 h7 (by rw [← h8]; exact h2)
    · exact nL h4
    · have h5 : w.heap.size ≤ D := h4
      omega
  refine ⟨hr.len, hr.def0.keep hmk, fun i av v h1 h2 => keepV (hr.slot i av v h1 h2) (livL_at hdt i av h1), hHn, hr.mod.mod hf.mod fun i hi hL => (hLE i hL).resolve_right (by omega), fun k y hk hv hfz hhk => ?_, fun b hb => ?_, fun b hb => hF' b (hr.f0 b hb), hf.fc, fun k m hsk hm => ?_⟩
  · rcases after_cases hn hlt hlen hk with ⟨i, z, rfl, hz, rfl⟩ | ⟨hkl, hkn, z, hz, rfl⟩
    · obtain ⟨g1, _, g3⟩ := Gn_back G G' hn hlt i
      rw [g1]
      rcases hf.sup i z hz (g3 ▸ hv) (by rw [rebO_fz] at hfz; exact hfz) rfl with h1 | h1
      · exact hLE _ h1
      · have h2 : w.heap.size ≤ G'.σ i := h1
        exact .inr (by omega)
    · obtain ⟨g1, _, g3⟩ := Gn_old G G' hkl hkn
      rw [g1]
      refine hr.sup k z hz (g3 ▸ hv) ?_ hhk
      split at hfz
      · cases z with
        | it _ _ => rfl
        | o _ _ => cases hfz
      · exact hfz
  · rcases hf.fsup b hb with h1 | h1 | h1
    · rcases h1 with h1 | ⟨k, kd, cs, h1, h2, h3, rfl⟩
      · exact hr.fsup b h1
      · by_cases hz : fzO (.o kd cs) = false
        · rcases hr.sup k _ h1 h3 hz (hoo k h2) with h4 | h4
          · exact .inr (.inl h4)
          · exact .inr (.inr h4)
        · have hob' := hr.heap.obj k _ h1
          cases kd with
          | box => exact absurd rfl hz
          | row e sz => exact absurd rfl hz
          | fz =>
            rcases hob' with ⟨e1, _⟩ | ⟨_, e1, _⟩
            · rw [h3] at e1; cases e1
            · exact hr.fsup _ e1
    · rcases hLE b h1 with h2 | h2
      · exact .inr (.inl h2)
      · exact .inr (.inr h2)
    · have h2 : w.heap.size ≤ b := h1
      exact .inr (.inr (by omega))
  · have hnd : k ∉ dead := fun hd => by
      have hlt0 := (List.getElem?_eq_some_iff.1 hm).1
      rcases hde k hd with h1 | h1
      · rw [hsk] at h1; cases h1
      · omega
    rcases hr.lat k m hsk hm with ⟨e1, e2, e3, e4⟩ | ⟨m', e1, e2⟩
    · rcases hlater k m hnd e1 with ⟨f1, f2, f3, f4⟩ | ⟨m', f1, f2⟩
      · exact .inl ⟨f1, f2.trans e2, f3.trans e3, f4.trans e4⟩
      · exact .inr ⟨m', f1, f2⟩
    · rcases hlater k m' hnd e1 with ⟨f1, _⟩ | ⟨m'', f1, f2⟩
      · exact .inr ⟨m', f1, e2⟩
      · exact .inr ⟨m'', f1, Nat.lt_trans e2 f2⟩
end
end Go.Proofs.Ytmgpiminicgbiaa
