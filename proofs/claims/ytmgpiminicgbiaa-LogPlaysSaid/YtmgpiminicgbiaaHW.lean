import Derived.Test.YtmgpiminicgbiaaTy
import Derived.Test.YtmgpiminicgbiaaG4
namespace Go.Proofs.Ytmgpiminicgbiaa
set_option linter.unusedVariables false
set_option linter.unusedSimpArgs false
/-! ## Rows of parts of one size -/
section
variable {α β : Type} (f : α → List β) (k : Nat) (hf : ∀ x, (f x).length = k)
include hf
theorem flat_length (l : List α) : (l.flatMap f).length = l.length * k := by
  induction l with
  | nil => simp
  | cons x l ih => rw [List.flatMap_cons, List.length_append, hf, ih, List.length_cons, Nat.succ_mul]; omega
theorem flat_drop (l : List α) (j : Nat) : (l.flatMap f).drop (j * k) = (l.drop j).flatMap f := by
  induction l generalizing j with
  | nil => simp
  | cons x l ih =>
    cases j with
    | zero => simp
    | succ j =>
      rw [List.flatMap_cons, List.drop_append, hf, List.drop_eq_nil_of_le (by rw [hf, Nat.succ_mul]; omega), List.nil_append, List.drop_succ_cons, ← ih j]
      congr 1
      rw [Nat.succ_mul]; omega
theorem flat_take (l : List α) (j : Nat) : (l.flatMap f).take (j * k) = (l.take j).flatMap f := by
  induction l generalizing j with
  | nil => simp
  | cons x l ih =>
    cases j with
    | zero => simp
    | succ j =>
      rw [List.flatMap_cons, List.take_append, hf, List.take_of_length_le (by rw [hf, Nat.succ_mul]; omega), List.take_succ_cons, List.flatMap_cons, ← ih j]
      congr 2
      rw [Nat.succ_mul]; omega
theorem flat_at (l : List α) (j : Nat) (hj : j < l.length) : ((l.flatMap f).drop (j * k)).take k = f l[j] := by
  rw [flat_drop f k hf, List.drop_eq_getElem_cons hj, List.flatMap_cons, List.take_append, hf, Nat.sub_self, List.take_zero, List.append_nil, List.take_of_length_le (by rw [hf]; omega)]
theorem flat_set (l : List α) (j : Nat) (hj : j < l.length) (y : α) : (l.flatMap f).take (j * k) ++ f y ++ (l.flatMap f).drop (j * k + k) = (l.set j y).flatMap f := by
  have e : j * k + k = (j + 1) * k := by rw [Nat.succ_mul]
  rw [flat_take f k hf, e, flat_drop f k hf, List.set_eq_take_append_cons_drop, if_pos hj, List.flatMap_append, List.flatMap_cons, List.append_assoc]
end
end Go.Proofs.Ytmgpiminicgbiaa
namespace Go.Proofs.Ytmgpiminicgbiaa
set_option linter.unusedVariables false
set_option linter.unusedSimpArgs false
open Go.RowKit
/-! ## More ways to tell a state (for seats without a device) -/
section
variable {P : Program} {E : Env} {s s' : AS}
theorem livL_nil (l : List AV) : AV.livL [] l = true := by
  have hd1 : ∀ v : AV, v.liv [] = true := by
    intro v
    refine AV.rec (motive_1 := fun v => v.liv [] = true) (motive_2 := fun l => AV.livL [] l = true) ?_ ?_ ?_ ?_ ?_ ?_ ?_ ?_ ?_ ?_ ?_ ?_ ?_ ?_ v <;> simp_all [AV.liv, AV.livL]
  induction l with
  | nil => simp [AV.livL]
  | cons v l ih => simp [AV.livL, hd1 v, ih]
theorem livH_nil (lent : List Nat) (h : List AObj) : ∀ n, livH [] lent n h = true := by
  induction h with
  | nil => intro n; simp [livH]
  | cons o h ih =>
    intro n
    simp only [livH, ih, Bool.and_true, Bool.or_eq_true]
    right
    cases o with
    | raw _ => rfl
    | o k cs => cases k <;> simp [livO, livL_nil]
/-- told otherwise, no block less -/
theorem wk_eq (hn : E.ln0.length ≤ s.h.length) (hh : s.h = s'.h) (ht : wkL [] s.t s'.t) : Wk E s s' :=
  wk_of s.h.length 0 rfl hn (by rw [List.take_length, hh]) (by simpa using livH_nil _ _ _) (by simpa using ht)
/-- how a region that draws ends: in states of one form -/
def dcutK (E : Env) {Y : Type} (fs : Y → AS) (FI : Y → Prop) (s : AS) : Prop := ∃ y, FI y ∧ Wk E s (fs y)
theorem draw_cut {ops : Array Oper} {K : AS → Prop} {Y : Type} (fs : Y → AS) (FI : Y → Prop) (tail : ∀ y, FI y → K (fs y)) (h : DrawG P E ops s (dcutK E fs FI)) : DrawG P E ops s K := fun a w hs N hN => h a w hs N fun s' a' w' h1 ⟨y, h2, h3⟩ => hN _ a' w' (h3 a' w' h1) (tail y h2)
theorem dcut_to {Y : Type} {fs : Y → AS} {FI : Y → Prop} (y : Y) (h1 : FI y) (h2 : Wk E s (fs y)) : dcutK E fs FI s := ⟨y, h1, h2⟩
theorem rangeFG_w {c : Code} {Q : Exit → AS → Prop} (hw : Wk E s s') (h : RangeFG P E c s' Q) : RangeFG P E c s Q := fun a w hs => h a w (hw a w hs)
theorem callG_args {g : FuncId} {args args' : List AV} {K : AV → AS → Prop} (hl : args'.length = args.length)
    (hw : ∀ (G : Gh) (F : Nat → Prop) (w : World) (j : Nat) (u u' : AV) (x : Value), args[j]? = some u → args'[j]? = some u' → RepV G (lens s.h) F w u x → RepV G (lens s.h) F w u' x)
    (h : CallG P E g args' s K) : CallG P E g args s K := by
  intro G F a w vs hr hn hv
  refine h G F a w vs hr (hl.trans hn) fun j u x h1 h2 => ?_
  have hj : j < args.length := by rw [← hl]; exact (List.getElem?_eq_some_iff.mp h1).1
  exact hw G F w j args[j] u x (List.getElem?_eq_getElem hj) h1 (hv j _ x (List.getElem?_eq_getElem hj) h2)
/-- argument i, which is nil, is an empty slice -/
theorem callG_nilAt {g : FuncId} {args : List AV} (i sz : Nat) {K : AV → AS → Prop} (hi : args[i]? = some (.c (.slice none 0 0))) (h : CallG P E g (args.set i (.fs sz 0 [])) s K) : CallG P E g args s K := by
  refine callG_args (args' := args.set i (.fs sz 0 [])) (by simp) ?_ h
  intro G F w j u u' x h1 h2 h3
  rw [List.getElem?_set] at h2
  split at h2
  · rename_i e; subst e
    rw [hi] at h1; injection h1 with h1; subst h1
    split at h2
    · injection h2 with h2; subst h2; exact nil_fs0 sz h3
    · cases h2
  · rw [h1] at h2; injection h2 with h2; subst h2; exact h3
end
end Go.Proofs.Ytmgpiminicgbiaa
namespace Go.Proofs.Ytmgpiminicgbiaa
set_option linter.unusedVariables false
set_option linter.unusedSimpArgs false
open Go.RowKit
/-! ## A row told shorter at a call's end; a block forgotten ahead of a call -/
section
variable {P : Program} {E : Env} {s : AS}
theorem Ret.cut {st : Nat → Bool} {h : List AObj} {Post : AV → List AObj → Prop} (k n : Nat) {e sz m : Nat} {cs : List AV} (hk : h[k]? = some (.o (.row e sz) cs)) (hm : cs.length = m) (hn : n * sz ≤ m) (hst : st k = false) (hd : cs.all isD = true) (ho : livH [k] [k] 0 h = true)
    (hr : Ret st Post (h.set k (.o (.row e sz) (cs.take (n * sz)))) (.sl k sz 0 n (n * sz))) : Ret st Post h (.sl k sz 0 n m) := by
  obtain ⟨h', r', hc, hp⟩ := hr
  refine ⟨h', r', fun E G F w x hE hf hrep => ?_, hp⟩
  have hkl : k < h.length := (List.getElem?_eq_some_iff.1 hk).1
  obtain ⟨h2, hh2⟩ : ∃ h2, h2 = h.set k (.o (.row e sz) (cs.take (n * sz))) := ⟨_, rfl⟩
  rw [← hh2] at hc
  have hget : ∀ j, j ≠ k → h2[j]? = h[j]? := fun j hj => by rw [hh2, List.getElem?_set_ne (Ne.symm hj)]
  have hgk : h2[k]? = some (.o (.row e sz) (cs.take (n * sz))) := by rw [hh2, List.getElem?_set_self hkl]
  have hln : ∀ j, j ≠ k → (lens h2)[j]? = (lens h)[j]? := fun j hj => by simp only [lens, List.getElem?_map, hget j hj]
  have hlk : (lens h2)[k]? = some (n * sz) := by simp only [lens, List.getElem?_map, hgk]; simp [lnO]; omega
  have hlk0 : (lens h)[k]? = some m := by simp only [lens, List.getElem?_map, hk]; simp [lnO, hm]
  have hlater : ∀ (j m' : Nat), j ∉ [k] → (lens h)[j]? = some m' → ((lens h2)[j]? = some m' ∧ G.σ j = G.σ j ∧ G.bs j = G.bs j ∧ G.vir j = G.vir j) ∨ ∃ m'', (lens h2)[j]? = some m'' ∧ m' < m'' := fun j m' hj hmm => .inl ⟨by rw [hln j (by simpa using hj)]; exact hmm, rfl, rfl, rfl⟩
  have keepV : ∀ {av : AV} {v : Value}, RepV G (lens h) F w av v → av.liv [k] = true → RepV G (lens h2) F w av v := fun h hv => RepV.keepL hlater (fun _ h => h) (fun _ _ => rfl) h hv
  have crel : ∀ {cs : List AV} {cur : Array Value}, CRel G (lens h) F w cs cur → (∀ (j : Nat) (u : AV), cs[j]? = some u → u.liv [k] = true) → CRel G (lens h2) F w cs cur := fun h1 h2 j u hu => let ⟨v, f1, f2⟩ := h1 j u hu; ⟨v, f1, keepV f2 (h2 j u hu)⟩
  have hback : ∀ (j : Nat) (y : AObj), h2[j]? = some y → ∃ y0, h[j]? = some y0 ∧ fzO y0 = fzO y := fun j y hy => by
    by_cases hj : j = k
    · subst hj; rw [hgk] at hy; injection hy with hy; subst hy; exact ⟨_, hk, rfl⟩
    · rw [hget j hj] at hy; exact ⟨y, hy, rfl⟩
  have hheap : HRel G F h2 w := by
    refine ⟨fun j y hy => ?_, fun j i y z hj hi vj vi fj fi he => ?_⟩
    · by_cases hj : j = k
      · subst hj
        rw [hgk] at hy; injection hy with hy; subst hy
        rcases hf.heap.obj j _ hk with ⟨a1, a2⟩ | ⟨a1, a2, cur, c, a3, a4, a5, a6, a7, a8⟩
        · exact .inl ⟨a1, by rw [a2]; simp⟩
        · refine .inr ⟨a1, a2, cur, c, a3, a4, a5, a6, by rw [List.length_take]; omega, fun i u hu => ?_⟩
          rw [List.getElem?_take] at hu
          split at hu
          · obtain ⟨v, f1, f2⟩ := a8 i u hu
            exact ⟨v, f1, keepV f2 (isD_liv hd i u hu)⟩
          · cases hu
      · rw [hget j hj] at hy
        have hob := hf.heap.obj j y hy
        have hlv := livH_at ho j y hy (by simpa using hj)
        cases y with
        | raw sx => exact hob
        | o kd cs' =>
          have hlc := livO_at hlv
          cases kd with
          | box => obtain ⟨a1, a2, cur, ty, a3, a4, a5, a6⟩ := hob; exact ⟨a1, a2, cur, ty, a3, a4, a5, crel a6 hlc⟩
          | row e' sz' =>
            rcases hob with ⟨a1, a2⟩ | ⟨a1, a2, cur, c, a3, a4, a5, a6, a7, a8⟩
            · exact .inl ⟨a1, a2⟩
            · exact .inr ⟨a1, a2, cur, c, a3, a4, a5, a6, a7, crel a8 hlc⟩
          | fz =>
            rcases hob with ⟨a1, a2⟩ | ⟨a1, a2, cur, ty, fr, a3, a4, a5, a6⟩
            · exact .inl ⟨a1, a2⟩
            · exact .inr ⟨a1, a2, cur, ty, fr, a3, a4, a5, crel a6 hlc⟩
    · obtain ⟨y0, g1, g2⟩ := hback j y hj
      obtain ⟨z0, g3, g4⟩ := hback i z hi
      exact hf.heap.inj j i y0 z0 g1 g3 vj vi (g2.trans fj) (g4.trans fi) he
  have hf2 : Fin E G F h2 w := ⟨hheap, hf.mod, fun j y hy hv hz hho => by
    obtain ⟨y0, g1, g2⟩ := hback j y hy
    exact hf.sup j y0 g1 hv (g2.trans hz) hho, hf.fsup, hf.f0, hf.fc⟩
  have hrep2 : RepV G (lens h2) F w (.sl k sz 0 n (n * sz)) x := by
    cases hrep with
    | d _ _ hh => cases hh
    | sl _ _ _ _ _ c a1 a2 a3 a4 a5 => exact .sl k sz 0 n (n * sz) c hlk a2 a3 a4 a5
    | slNil _ _ a1 a2 =>
      have : (lens h2)[k]? = some 0 := by rw [hlk]; simp
      simpa using RepV.slNil (G := G) (ln := lens h2) (F := F) (w := w) k sz this a2
    | slOld _ _ _ _ _ m' A l c a1 a2 => rw [hlk0] at a1; injection a1 with a1; omega
  obtain ⟨G', F', c1, c2, c3⟩ := hc E G F w x hE hf2 hrep2
  refine ⟨G', F', c1, c2, fun j m' hs hmm => ?_⟩
  have hj : j ≠ k := fun e => by subst e; rw [hst] at hs; cases hs
  exact c3 j m' hs (by rw [hln j hj]; exact hmm)
/-- ahead of a call: of a block's cells and of the slots less is told -/
theorem callG_less {g : FuncId} {args : List AV} {K : AV → AS → Prop} (k : Nat) {kd : AKind} {cs : List AV} (cs' t' : List AV) (hk : s.h[k]? = some (.o kd cs)) (hc : wkL [] cs cs') (ht : wkL [] s.t t') (h : CallG P E g args ⟨t', s.h.set k (.o kd cs')⟩ K) : CallG P E g args s K := by
  intro G F a w vs hr hn hv
  obtain ⟨c1, c2⟩ := wkL_at hc
  obtain ⟨d1, d2⟩ := wkL_at ht
  have hln : lens (s.h.set k (.o kd cs')) = lens s.h := lens_set hk (by simp [lnO, c1])
  have crel : ∀ {cur : Array Value}, CRel G (lens s.h) F w cs cur → CRel G (lens (s.h.set k (.o kd cs'))) F w cs' cur := fun h1 j u hu => by
    obtain ⟨b, hb, hw⟩ := c2 j u hu
    obtain ⟨v, f1, f2⟩ := h1 j b hb
    refine ⟨v, f1, ?_⟩
    rw [hln]
    rcases wkV_at hw with rfl | ⟨rfl, _⟩
    · exact .any v
    · exact f2
  have hget : ∀ {j : Nat} {x : AObj}, (s.h.set k (.o kd cs'))[j]? = some x → (j = k ∧ x = .o kd cs') ∨ (j ≠ k ∧ s.h[j]? = some x) := fun {j x} hj => by
    by_cases e : j = k
    · subst e; rw [List.getElem?_set_self (List.getElem?_eq_some_iff.1 hk).1] at hj; injection hj with hj; exact .inl ⟨rfl, hj.symm⟩
    · rw [List.getElem?_set_ne (Ne.symm e)] at hj; exact .inr ⟨e, hj⟩
  have hback : ∀ {j : Nat} {x : AObj}, (s.h.set k (.o kd cs'))[j]? = some x → ∃ y, s.h[j]? = some y ∧ fzO y = fzO x := fun {j x} hj => by
    rcases hget hj with ⟨rfl, rfl⟩ | ⟨_, h⟩
    · exact ⟨_, hk, by cases kd <;> rfl⟩
    · exact ⟨_, h, rfl⟩
  refine h G F a w vs ⟨by rw [hr.len]; exact d1, hr.def0, fun i u v hu hv => ?_, ⟨fun j x hj => ?_, fun j i x y hj hi vj vi fj fi he => ?_⟩, hr.mod, fun j x hj hv hz hho => ?_, hr.fsup, hr.f0, hr.fc, by simp only; rw [hln]; exact hr.lat⟩ hn (by simp only; rw [hln]; exact hv)
  · obtain ⟨b, hb, hw⟩ := d2 i u hu
    simp only
    rw [hln]
    rcases wkV_at hw with rfl | ⟨rfl, _⟩
    · exact .any v
    · exact hr.slot i b v hb hv
  · rcases hget hj with ⟨rfl, rfl⟩ | ⟨_, h0⟩
    · have hob := hr.heap.obj j _ hk
      cases kd with
      | box => obtain ⟨a1, a2, cur, ty, a3, a4, a5, a6⟩ := hob; exact ⟨a1, a2, cur, ty, a3, a4, by rw [← c1]; exact a5, crel a6⟩
      | row e' sz' =>
        rcases hob with ⟨a1, a2⟩ | ⟨a1, a2, cur, c, a3, a4, a5, a6, a7, a8⟩
        · exact .inl ⟨a1, List.eq_nil_of_length_eq_zero (by rw [← c1, a2]; rfl)⟩
        · exact .inr ⟨a1, a2, cur, c, a3, a4, a5, a6, by rw [← c1]; exact a7, crel a8⟩
      | fz =>
        rcases hob with ⟨a1, a2⟩ | ⟨a1, a2, cur, ty, fr, a3, a4, a5, a6⟩
        · exact .inl ⟨a1, List.eq_nil_of_length_eq_zero (by rw [← c1, a2]; rfl)⟩
        · exact .inr ⟨a1, a2, cur, ty, fr, a3, a4, by rw [← c1]; exact a5, crel a6⟩
    · simp only
      rw [hln]
      exact hr.heap.obj j x h0
  · obtain ⟨x0, g1, g2⟩ := hback hj
    obtain ⟨y0, g3, g4⟩ := hback hi
    exact hr.heap.inj j i x0 y0 g1 g3 vj vi (g2.trans fj) (g4.trans fi) he
  · obtain ⟨x0, g1, g2⟩ := hback hj
    exact hr.sup j x0 g1 hv (g2.trans hz) hho
end
end Go.Proofs.Ytmgpiminicgbiaa
namespace Go.Proofs.Ytmgpiminicgbiaa
set_option linter.unusedVariables false
set_option linter.unusedSimpArgs false
open Go.RowKit
/-! ## A row told as far as its capacity goes -/
section
variable {P : Program} {E : Env} {s : AS}
theorem wp_or {c : Code} {Q : Exit → AS → Prop} {X : Type} (st : X → AS) (h : ∀ a w, Sat E s a w → ∃ x, Sat E (st x) a w) (H : ∀ x, EW P E c (st x) Q) : EW P E c s Q := fun a w hs => let ⟨x, hx⟩ := h a w hs; H x a w hx
def spare (n : Nat) : List AV := List.replicate n .any
theorem spare_length (n : Nat) : (spare n).length = n := List.length_replicate
/-- the state in which row k is told to its capacity's end, and slot i with it -/
def slcS (s : AS) (i k e sz n : Nat) (cs : List AV) (c : Nat) : AS := ⟨s.t.set i (.slc k sz 0 n (c * sz)), s.h.set k (.o (.row e sz) (cs ++ spare ((c - n) * sz)))⟩
theorem sat_slc {i k e sz n m : Nat} {cs : List AV} (hi : s.t[i]? = some (.sl k sz 0 n m)) (hk : s.h[k]? = some (.o (.row e sz) cs)) (hm : cs.length = m) (hn : n * sz = m) (h0 : 0 < m) {a : Act} {w : World} (hs : Sat E s a w) :
    ∃ c : { c : Nat // n ≤ c ∧ c ≤ maxLen }, Sat E (slcS s i k e sz n cs c.1) a w := by
  obtain ⟨G, F, hr⟩ := hs
  have hln : (lens s.h)[k]? = some m := by simp [lens, List.getElem?_map, hk, lnO, hm]
  have hil : i < a.tmps.size := by rw [hr.len]; exact (List.getElem?_eq_some_iff.1 hi).1
  have hsl := hr.slot i _ _ hi (Array.getElem?_eq_getElem hil)
  rcases sl_inv hsl hln with ⟨_, _, _, hm0, _⟩ | ⟨hv, c, hxe, c1, c2, c3⟩
  · omega
  refine ⟨⟨c, c1, c2⟩, G, F, ?_⟩
  have hkl : k < s.h.length := (List.getElem?_eq_some_iff.1 hk).1
  have hle : n * sz ≤ c * sz := Nat.mul_le_mul_right _ c1
  have hsub : (c - n) * sz = c * sz - n * sz := Nat.sub_mul _ _ _
  have hcl : (cs ++ spare ((c - n) * sz)).length = c * sz := by rw [List.length_append, spare_length]; omega
  obtain ⟨h2, hh2⟩ : ∃ h2, h2 = s.h.set k (.o (.row e sz) (cs ++ spare ((c - n) * sz))) := ⟨_, rfl⟩
  have hget : ∀ j, j ≠ k → h2[j]? = s.h[j]? := fun j hj => by rw [hh2, List.getElem?_set_ne (Ne.symm hj)]
  have hgk : h2[k]? = some (.o (.row e sz) (cs ++ spare ((c - n) * sz))) := by rw [hh2, List.getElem?_set_self hkl]
  have hlj : ∀ j, j ≠ k → (lens h2)[j]? = (lens s.h)[j]? := fun j hj => by simp only [lens, List.getElem?_map, hget j hj]
  have hlk : (lens h2)[k]? = some (c * sz) := by simp only [lens, List.getElem?_map, hgk]; simp only [Option.map_some, lnO, hcl]
  have hl : Later G G (lens s.h) (lens h2) := by
    intro j m' hj
    by_cases e1 : j = k
    · subst e1
      rw [hln] at hj; injection hj with hj; subst hj
      rcases Nat.lt_or_ge m (c * sz) with h | h
      · exact .inr ⟨_, hlk, h⟩
      · exact .inl ⟨by rw [hlk]; congr 1; omega, rfl, rfl, rfl⟩
    · exact .inl ⟨by rw [hlj j e1]; exact hj, rfl, rfl, rfl⟩
  have hw : ∀ b, F b → w.heap[b]? = w.heap[b]? := fun _ _ => rfl
  have hback : ∀ (j : Nat) (y : AObj), h2[j]? = some y → ∃ y0, s.h[j]? = some y0 ∧ fzO y0 = fzO y := fun j y hy => by
    by_cases hj : j = k
    · subst hj; rw [hgk] at hy; injection hy with hy; subst hy; exact ⟨_, hk, rfl⟩
    · rw [hget j hj] at hy; exact ⟨y, hy, rfl⟩
  have hob := hr.heap.obj k _ hk
  have hslc : RepV G (lens h2) F w (.slc k sz 0 n (c * sz)) a.tmps[i] := by
    rw [hxe]
    refine .slc _ _ _ _ _ _ _ _ (.sl k sz 0 n _ c hlk hv c1 c2 c3) (fun _ => by omega)
  show Rel E G F ⟨s.t.set i (.slc k sz 0 n (c * sz)), s.h.set k (.o (.row e sz) (cs ++ spare ((c - n) * sz)))⟩ a w
  rw [← hh2]
  refine ⟨by simp [hr.len], hr.def0, fun j u v hu hv' => ?_, ⟨fun j y hy => ?_, fun j i' y z hj hi' vj vi fj fi he => ?_⟩, hr.mod, fun j y hy hv' hz hho => ?_, hr.fsup, hr.f0, hr.fc, hr.lat.trans (hl.same _)⟩
  · rw [List.getElem?_set] at hu
    split at hu
    · rename_i e1; subst e1
      split at hu
      · injection hu with hu; subst hu
        rw [Array.getElem?_eq_getElem hil] at hv'; injection hv' with hv'; subst hv'
        exact hslc
      · cases hu
    · exact (hr.slot j u v hu hv').keep hl (fun _ h => h) hw
  · by_cases hj : j = k
    · subst hj
      rw [hgk] at hy; injection hy with hy; subst hy
      rcases hob with ⟨a1, a2⟩ | ⟨a1, a2, cur, c', a3, a4, a5, a6, a7, a8⟩
      · rw [hv] at a1; cases a1
      · refine .inr ⟨a1, a2, cur, c', a3, a4, a5, a6, by rw [hcl]; omega, fun q u hu => ?_⟩
        by_cases hq : q < cs.length
        · rw [List.getElem?_append_left hq] at hu
          obtain ⟨v, f1, f2⟩ := a8 q u hu
          exact ⟨v, f1, f2.keep hl (fun _ h => h) hw⟩
        · have hql : q < (cs ++ spare ((c - n) * sz)).length := (List.getElem?_eq_some_iff.1 hu).1
          rw [List.getElem?_append_right (by omega)] at hu
          have : u = .any := by
            unfold spare at hu
            rw [List.getElem?_replicate] at hu
            split at hu
            · injection hu with hu; exact hu.symm
            · cases hu
          subst this
          have hlt : q < cur.size := by rw [hcl] at hql; omega
          exact ⟨cur[q], Array.getElem?_eq_getElem hlt, .any _⟩
    · rw [hget j hj] at hy
      exact (hr.heap.obj j y hy).keep hl (fun _ h => h) hw ⟨rfl, rfl, rfl⟩ (fun _ => rfl) (fun hv' hf => hr.heap.nfz hy hv' hf)
  · obtain ⟨y0, g1, g2⟩ := hback j y hj
    obtain ⟨z0, g3, g4⟩ := hback i' z hi'
    exact hr.heap.inj j i' y0 z0 g1 g3 vj vi (g2.trans fj) (g4.trans fi) he
  · obtain ⟨y0, g1, g2⟩ := hback j y hy
    exact hr.sup j y0 g1 hv' (g2.trans hz) hho
theorem acalls_slc {f : FuncId} {fn : Func} {c : Code} {args : List AV} {h : List AObj} {st : Nat → Bool} {Post : AV → List AObj → Prop} {rs : List ResultVar} {nt : Nat} (i k : Nat) {e sz n m : Nat} {cs : List AV} (hm : P.follows .mixedOrders = true) (hf : P.funcs[f]? = some fn) (hb : fn.body = some c) (hn : fn.ntmps = nt) (hrs : fn.results.toList = rs)
    (hi : (args ++ anyS (nt - args.length))[i]? = some (.sl k sz 0 n m)) (hk : h[k]? = some (.o (.row e sz) cs)) (hcs : cs.length = m) (hnm : n * sz = m) (h0 : 0 < m)
    (H : ∀ E, E.ln0 = lens h → E.st = st → E.ho = noHo → ∀ q : Nat, n ≤ q → q ≤ maxLen → runK P E [] c [] (retK P st rs Post) ⟨(args ++ anyS (nt - args.length)).set i (.slc k sz 0 n (q * sz)), h.set k (.o (.row e sz) (cs ++ spare ((q - n) * sz)))⟩) : ACalls P f args h st Post :=
  acalls_of_EW hm hf hb hn hrs fun E h1 h2 h3 h4 => wp_or (fun c : { c : Nat // n ≤ c ∧ c ≤ maxLen } => slcS ⟨args ++ anyS (nt - args.length), h⟩ i k e sz n cs c.1) (fun a w hs => sat_slc hi hk hcs hnm h0 hs) fun q => runC_sound hm c _ _ (H E h1 h2 h3 q.1 q.2.1 q.2.2)
/-- a row told shorter at a call's end, of which more is not known -/
theorem Ret.cutT {st : Nat → Bool} {h : List AObj} {Post : AV → List AObj → Prop} (k n : Nat) {e sz m : Nat} {cs : List AV} (hk : h[k]? = some (.o (.row e sz) cs)) (hm : cs.length = m) (hn : n * sz ≤ m) (hst : st k = false) (hd : (cs.take (n * sz)).all isD = true) (ho : livH [k] [k] 0 h = true)
    (hr : Ret st Post (h.set k (.o (.row e sz) (cs.take (n * sz)))) (.sl k sz 0 n (n * sz))) : Ret st Post h (.sl k sz 0 n m) := by
  obtain ⟨h', r', hc, hp⟩ := hr
  refine ⟨h', r', fun E G F w x hE hf hrep => ?_, hp⟩
  have hkl : k < h.length := (List.getElem?_eq_some_iff.1 hk).1
  obtain ⟨h2, hh2⟩ : ∃ h2, h2 = h.set k (.o (.row e sz) (cs.take (n * sz))) := ⟨_, rfl⟩
  rw [← hh2] at hc
  have hget : ∀ j, j ≠ k → h2[j]? = h[j]? := fun j hj => by rw [hh2, List.getElem?_set_ne (Ne.symm hj)]
  have hgk : h2[k]? = some (.o (.row e sz) (cs.take (n * sz))) := by rw [hh2, List.getElem?_set_self hkl]
  have hln : ∀ j, j ≠ k → (lens h2)[j]? = (lens h)[j]? := fun j hj => by simp only [lens, List.getElem?_map, hget j hj]
  have hlk : (lens h2)[k]? = some (n * sz) := by simp only [lens, List.getElem?_map, hgk]; simp [lnO]; omega
  have hlk0 : (lens h)[k]? = some m := by simp only [lens, List.getElem?_map, hk]; simp [lnO, hm]
  have hlater : ∀ (j m' : Nat), j ∉ [k] → (lens h)[j]? = some m' → ((lens h2)[j]? = some m' ∧ G.σ j = G.σ j ∧ G.bs j = G.bs j ∧ G.vir j = G.vir j) ∨ ∃ m'', (lens h2)[j]? = some m'' ∧ m' < m'' := fun j m' hj hmm => .inl ⟨by rw [hln j (by simpa using hj)]; exact hmm, rfl, rfl, rfl⟩
  have keepV : ∀ {av : AV} {v : Value}, RepV G (lens h) F w av v → av.liv [k] = true → RepV G (lens h2) F w av v := fun h hv => RepV.keepL hlater (fun _ h => h) (fun _ _ => rfl) h hv
  have crel : ∀ {cs : List AV} {cur : Array Value}, CRel G (lens h) F w cs cur → (∀ (j : Nat) (u : AV), cs[j]? = some u → u.liv [k] = true) → CRel G (lens h2) F w cs cur := fun h1 h2 j u hu => let ⟨v, f1, f2⟩ := h1 j u hu; ⟨v, f1, keepV f2 (h2 j u hu)⟩
  have hback : ∀ (j : Nat) (y : AObj), h2[j]? = some y → ∃ y0, h[j]? = some y0 ∧ fzO y0 = fzO y := fun j y hy => by
    by_cases hj : j = k
    · subst hj; rw [hgk] at hy; injection hy with hy; subst hy; exact ⟨_, hk, rfl⟩
    · rw [hget j hj] at hy; exact ⟨y, hy, rfl⟩
  have hheap : HRel G F h2 w := by
    refine ⟨fun j y hy => ?_, fun j i y z hj hi vj vi fj fi he => ?_⟩
    · by_cases hj : j = k
      · subst hj
        rw [hgk] at hy; injection hy with hy; subst hy
        rcases hf.heap.obj j _ hk with ⟨a1, a2⟩ | ⟨a1, a2, cur, c, a3, a4, a5, a6, a7, a8⟩
        · exact .inl ⟨a1, by rw [a2]; simp⟩
        · refine .inr ⟨a1, a2, cur, c, a3, a4, a5, a6, by rw [List.length_take]; omega, fun i u hu => ?_⟩
          rw [List.getElem?_take] at hu
          split at hu
          · rename_i hlt
            obtain ⟨v, f1, f2⟩ := a8 i u hu
            exact ⟨v, f1, keepV f2 (isD_liv hd i u (by rw [List.getElem?_take, if_pos hlt]; exact hu))⟩
          · cases hu
      · rw [hget j hj] at hy
        have hob := hf.heap.obj j y hy
        have hlv := livH_at ho j y hy (by simpa using hj)
        cases y with
        | raw sx => exact hob
        | o kd cs' =>
          have hlc := livO_at hlv
          cases kd with
          | box => obtain ⟨a1, a2, cur, ty, a3, a4, a5, a6⟩ := hob; exact ⟨a1, a2, cur, ty, a3, a4, a5, crel a6 hlc⟩
          | row e' sz' =>
            rcases hob with ⟨a1, a2⟩ | ⟨a1, a2, cur, c, a3, a4, a5, a6, a7, a8⟩
            · exact .inl ⟨a1, a2⟩
            · exact .inr ⟨a1, a2, cur, c, a3, a4, a5, a6, a7, crel a8 hlc⟩
          | fz =>
            rcases hob with ⟨a1, a2⟩ | ⟨a1, a2, cur, ty, fr, a3, a4, a5, a6⟩
            · exact .inl ⟨a1, a2⟩
            · exact .inr ⟨a1, a2, cur, ty, fr, a3, a4, a5, crel a6 hlc⟩
    · obtain ⟨y0, g1, g2⟩ := hback j y hj
      obtain ⟨z0, g3, g4⟩ := hback i z hi
      exact hf.heap.inj j i y0 z0 g1 g3 vj vi (g2.trans fj) (g4.trans fi) he
  have hf2 : Fin E G F h2 w := ⟨hheap, hf.mod, fun j y hy hv hz hho => by
    obtain ⟨y0, g1, g2⟩ := hback j y hy
    exact hf.sup j y0 g1 hv (g2.trans hz) hho, hf.fsup, hf.f0, hf.fc⟩
  have hrep2 : RepV G (lens h2) F w (.sl k sz 0 n (n * sz)) x := by
    cases hrep with
    | d _ _ hh => cases hh
    | sl _ _ _ _ _ c a1 a2 a3 a4 a5 => exact .sl k sz 0 n (n * sz) c hlk a2 a3 a4 a5
    | slNil _ _ a1 a2 =>
      have : (lens h2)[k]? = some 0 := by rw [hlk]; simp
      simpa using RepV.slNil (G := G) (ln := lens h2) (F := F) (w := w) k sz this a2
    | slOld _ _ _ _ _ m' A l c a1 a2 => rw [hlk0] at a1; injection a1 with a1; omega
  obtain ⟨G', F', c1, c2, c3⟩ := hc E G F w x hE hf2 hrep2
  refine ⟨G', F', c1, c2, fun j m' hs hmm => ?_⟩
  have hj : j ≠ k := fun e => by subst e; rw [hst] at hs; cases hs
  exact c3 j m' hs (by rw [hln j hj]; exact hmm)
end
end Go.Proofs.Ytmgpiminicgbiaa
namespace Go.Proofs.Ytmgpiminicgbiaa
set_option linter.unusedVariables false
set_option linter.unusedSimpArgs false
open Go.RowKit
/-! ## A row of one's own, lent as data: it comes back as it was, and may be written again -/
def noFs1 : AV → Bool
  | .any | .c _ | .ptr .. | .sl .. => true
  | _ => false
def noFs : AV → Bool
  | .tup l => l.all noFs1
  | .agg l => l.all noFs1
  | v => noFs1 v
def noFsO : AObj → Bool
  | .o .box cs => cs.all noFs1
  | .o (.row _ _) cs => cs.all noFs1
  | _ => false
theorem noFs1_rep {av : AV} (ho : noFs1 av = true) {G : Gh} {ln : List Nat} {F F' : Nat → Prop} {w w' : World} {v : Value} (h : RepV G ln F w av v) : RepV G ln F' w' av v := by
  cases av with
  | any => exact .any v
  | c x => rw [h.c_inv]; exact .cc x
  | ptr k off m =>
    cases h with
    | d _ _ h => cases h
    | ptr _ _ _ h1 h2 => exact .ptr k off m h1 h2
    | ptrOld _ _ _ m' p h1 h2 => exact .ptrOld k off m m' p h1 h2
  | sl k sz off n m =>
    cases h with
    | d _ _ h => cases h
    | sl _ _ _ _ _ c h1 h2 h3 h4 h5 => exact .sl k sz off n m c h1 h2 h3 h4 h5
    | slNil _ _ h1 h2 => exact .slNil k sz h1 h2
    | slOld _ _ _ _ _ m' A l c h1 h2 => exact .slOld k sz off n m m' A l c h1 h2
  | _ => cases ho
theorem noFs_rep {av : AV} (ho : noFs av = true) {G : Gh} {ln : List Nat} {F F' : Nat → Prop} {w w' : World} {v : Value} (h : RepV G ln F w av v) : RepV G ln F' w' av v := by
  cases av with
  | tup l =>
    obtain ⟨cs, rfl, h1, h2⟩ := tup_inv h
    exact .tup l cs h1 fun j u x hu hx => noFs1_rep (List.all_eq_true.1 ho u (List.mem_of_getElem? hu)) (h2 j u x hu hx)
  | agg l =>
    obtain ⟨cs, rfl, h1, h2⟩ := agg_inv h
    exact .agg l cs h1 fun j u x hu hx => noFs1_rep (List.all_eq_true.1 ho u (List.mem_of_getElem? hu)) (h2 j u x hu hx)
  | any => exact noFs1_rep (av := .any) ho h
  | c x => exact noFs1_rep (av := .c x) ho h
  | ptr k off m => exact noFs1_rep (av := .ptr k off m) ho h
  | sl k sz off n m => exact noFs1_rep (av := .sl k sz off n m) ho h
  | _ => cases ho
theorem ACalls.lend0 {P : Program} {f : FuncId} {e sz n : Nat} {l : List AV} {R : AV} {H : List AObj} {st : Nat → Bool} (hc : ACalls P f [.fs sz n l] [] st (fun r h' => r = R ∧ h' = H)) (hl : l.length = n * sz) (hn : n ≤ maxLen) (hd : l.all isD = true) (hR : noFs R = true) (hH : H.all noFsO = true) :
    ACalls P f [.sl 0 sz 0 n (n * sz)] [.o (.row e sz) l] (fun k => decide (k = 0)) (fun r h' => r = R.reb (· + 1) ∧ h' = .o (.row e sz) l :: H.map (rebO (· + 1))) := by
  intro G F w vs hh hF hr
  obtain ⟨hr1, hr2⟩ := hr
  let Fc : Nat → Prop := fun b => F b ∨ (G.vir 0 = false ∧ b = G.σ 0)
  have h0 : ([AObj.o (.row e sz) l] : List AObj)[0]? = some (.o (.row e sz) l) := rfl
  have hFc : FC Fc w := hF.more (fun _ h => .inl h) (fun _ _ => rfl) fun b hb => by
    rcases hb with h1 | ⟨h1, rfl⟩
    · exact hF b h1
    · exact hh.isCells h0 h1
  have hconv : AV.conv [] (fun _ => true) [AObj.o (.row e sz) l] (.sl 0 sz 0 n (n * sz)) = some (l.length = n * sz ∧ 0 + n * sz ≤ n * sz ∧ n ≤ maxLen ∧ ((l.drop 0).take (n * sz)).all isD = true, .fs sz n l) := by
    simp only [AV.conv, idx, cellsH, h0, if_true, Option.map_some]
    congr 2
    rw [List.drop_zero, List.take_of_length_le (by omega)]
  have hrepL : RepL G [] Fc w [.fs sz n l] vs := by
    refine ⟨hr1, fun j u x hu hx => ?_⟩
    have hj : j = 0 := by
      have := (List.getElem?_eq_some_iff.1 hu).1
      simpa using this
    subst hj
    simp only [List.getElem?_cons_zero, Option.some.injEq] at hu
    subst hu
    refine RepV.conv (lent := []) (ok := fun _ => true) (lnc := []) (Gc := G) hh (fun i k h => by simp at h) (fun b h => .inl h) (fun k kd cs h1 _ h3 => ?_) (hr2 0 _ x rfl hx) hconv ⟨hl, by omega, hn, by rw [List.drop_zero, List.take_of_length_le (by omega)]; exact hd⟩
    have hk : k = 0 := by
      have := (List.getElem?_eq_some_iff.1 h1).1
      simpa using this
    subst hk
    exact .inr ⟨h3, rfl⟩
  refine (hc G Fc w vs ⟨fun k x hk => by simp at hk, fun j k x y hj => by simp at hj⟩ hFc hrepL).mono fun er w' ⟨x, r, h', G', F', he, hf, hrr, _, hp1, hp2⟩ => ?_
  subst hp1 hp2
  have nL : ∀ b, ¬ lentB G [] b := fun b ⟨k, x, hk, _⟩ => by simp at hk
  have old : ∀ b, b < w.heap.size → w'.heap[b]? = w.heap[b]? := fun b hb => hf.mod.block b hb (nL b)
  let G2 : Gh := ⟨fun i => match i with | 0 => G.σ 0 | i + 1 => G'.σ i, fun i => match i with | 0 => G.bs 0 | i + 1 => G'.bs i, fun i => match i with | 0 => G.vir 0 | i + 1 => G'.vir i⟩
  let F2 : Nat → Prop := fun b => F' b ∧ (F b ∨ w.heap.size ≤ b)
  obtain ⟨H2, hH2⟩ : ∃ H2, H2 = AObj.o (.row e sz) l :: h'.map (rebO (· + 1)) := ⟨_, rfl⟩
  have hf0 : ∀ b, F b → F2 b := fun b hb => ⟨hf.f0 b (.inl hb), .inl hb⟩
  have hFlt : ∀ b, F b → b < w.heap.size := hF.lt
  have hln : ∀ i m, (lens h')[i]? = some m → G2.σ (i + 1) = G'.σ i ∧ G2.bs (i + 1) = G'.bs i ∧ G2.vir (i + 1) = G'.vir i ∧ (lens H2)[i + 1]? = some m := fun i m hi => by
    refine ⟨rfl, rfl, rfl, ?_⟩
    rw [hH2]
    simp only [lens, List.map_cons, List.getElem?_cons_succ, List.map_map]
    simp only [lens, List.getElem?_map] at hi ⊢
    rw [Option.map_eq_some_iff] at hi ⊢
    obtain ⟨y, hy, hm⟩ := hi
    exact ⟨y, hy, by simp only [Function.comp]; rw [rebO_ln]; exact hm⟩
  have hget : ∀ {k : Nat} {y : AObj}, H2[k]? = some y → (k = 0 ∧ y = .o (.row e sz) l) ∨ ∃ i z, k = i + 1 ∧ h'[i]? = some z ∧ y = rebO (· + 1) z := fun {k y} hk => by
    rw [hH2] at hk
    cases k with
    | zero => simp at hk; exact .inl ⟨rfl, hk.symm⟩
    | succ i =>
      rw [List.getElem?_cons_succ, List.getElem?_map, Option.map_eq_some_iff] at hk
      obtain ⟨z, hz, rfl⟩ := hk
      exact .inr ⟨i, z, rfl, hz, rfl⟩
  have hno : ∀ {i : Nat} {z : AObj}, h'[i]? = some z → noFsO z = true := fun hz => List.all_eq_true.1 hH _ (List.mem_of_getElem? hz)
  have hob0 := hh.obj 0 _ h0
  have hfz : ∀ {z : AObj}, noFsO z = true → fzO z = false := fun {z} hz => by
    cases z with
    | raw s => cases hz
    | o kd cs => cases kd <;> first | rfl | cases hz
  have hnew : ∀ {i : Nat} {z : AObj}, h'[i]? = some z → G'.vir i = false → w.heap.size ≤ G'.σ i := fun {i z} hz hv => by
    rcases hf.sup i z hz hv (hfz (hno hz)) rfl with h1 | h1
    · exact absurd h1 (nL _)
    · exact h1
  have hcr : ∀ {cs : List AV} {cur : Array Value}, cs.all noFs1 = true → CRel G' (lens h') F' w' cs cur → CRel G2 (lens H2) F2 w' (AV.rebL (· + 1) cs) cur := fun {cs cur} hcs h1 j u hu => by
    obtain ⟨u0, hu0, rfl⟩ := rebL_at.2 j u hu
    obtain ⟨y, e1, e2⟩ := h1 j u0 hu0
    refine ⟨y, e1, RepV.reb hln (noFs1_rep (List.all_eq_true.1 hcs _ (List.mem_of_getElem? hu0)) e2)⟩
  have hheap : HRel G2 F2 H2 w' := by
    refine ⟨fun k y hy => ?_, fun j k y z hj hk vj vk fj fk hσ => ?_⟩
    · rcases hget hy with ⟨rfl, rfl⟩ | ⟨i, z, rfl, hz, rfl⟩
      · rcases hob0 with ⟨a1, a2⟩ | ⟨a1, a2, cur, c, a3, a4, a5, a6, a7, a8⟩
        · exact .inl ⟨a1, a2⟩
        · refine .inr ⟨a1, fun hF2 => hF2.2.elim a2 fun h => by have h1 := a3.lt; have h2 : w.heap.size ≤ G.σ 0 := h; omega, cur, c, ?_, a4, a5, a6, a7, fun j u hu => ?_⟩
          · exact (old _ a3.lt).trans a3
          · obtain ⟨v, e1, e2⟩ := a8 j u hu
            exact ⟨v, e1, .d _ _ ((isD_rep (List.all_eq_true.1 hd _ (List.mem_of_getElem? hu)) e2).keep hf0 fun b hb => old b (hFlt b hb))⟩
      · have hob := hf.heap.obj i z hz
        have hnz := hno hz
        cases z with
        | raw s => cases hnz
        | o kd cs =>
          rw [rebO_eq]
          have hlen : (AV.rebL (· + 1) cs).length = cs.length := rebL_at.1
          cases kd with
          | box =>
            obtain ⟨a1, a2, cur, ty, a3, a4, a5, a6⟩ := hob
            exact ⟨a1, fun h => a2 h.1, cur, ty, a3, a4, by rw [hlen]; exact a5, hcr hnz a6⟩
          | row e' sz' =>
            rcases hob with ⟨a1, a2⟩ | ⟨a1, a2, cur, c, a3, a4, a5, a6, a7, a8⟩
            · exact .inl ⟨a1, by rw [a2]; rfl⟩
            · exact .inr ⟨a1, fun h => a2 h.1, cur, c, a3, a4, a5, a6, by rw [hlen]; exact a7, hcr hnz a8⟩
          | fz => cases hnz
    · rcases hget hj with ⟨rfl, rfl⟩ | ⟨i, y0, rfl, hy0, rfl⟩ <;> rcases hget hk with ⟨rfl, rfl⟩ | ⟨i', z0, rfl, hz0, rfl⟩
      · rfl
      · rcases hob0 with ⟨a1, _⟩ | ⟨_, _, cur, c, a3, _⟩
        · rw [show G2.vir 0 = G.vir 0 from rfl, a1] at vj; cases vj
        · have h1 := hnew hz0 vk
          have h2 := a3.lt
          have h3 : G.σ 0 = G'.σ i' := hσ
          omega
      · rcases hob0 with ⟨a1, _⟩ | ⟨_, _, cur, c, a3, _⟩
        · rw [show G2.vir 0 = G.vir 0 from rfl, a1] at vk; cases vk
        · have h1 := hnew hy0 vj
          have h2 := a3.lt
          have h3 : G'.σ i = G.σ 0 := hσ
          omega
      · have := hf.heap.inj i i' y0 z0 hy0 hz0 vj vk (hfz (hno hy0)) (hfz (hno hz0)) hσ
        rw [this]
  refine ⟨x, r.reb (· + 1), H2, G2, F2, he, ⟨hheap, ⟨hf.mod.os, hf.mod.tape, hf.mod.output, hf.mod.size, fun k hk _ => old k hk⟩, fun k y hy hv hz hho => ?_, fun b hb => ?_, hf0, ?_⟩, RepV.reb hln (noFs_rep hR hrr), fun k m hk hm => ?_, rfl, hH2⟩
  · rcases hget hy with ⟨rfl, rfl⟩ | ⟨i, z, rfl, hz', rfl⟩
    · exact .inl ⟨0, _, h0, hv, rfl, rfl⟩
    · exact .inr (hnew hz' hv)
  · rcases hb.2 with h1 | h1
    · exact .inl h1
    · exact .inr (.inr h1)
  · exact ⟨fun b hb => hf.fc b hb.1, fun p hp => ⟨hf0 _ (hF.tabs p hp).1, (hf.fc.tabs p hp).2⟩⟩
  · have hk0 : k = 0 := of_decide_eq_true hk
    subst hk0
    refine .inl ⟨?_, rfl, rfl, rfl⟩
    rw [hH2]
    simpa [lens] using hm
end Go.Proofs.Ytmgpiminicgbiaa
