import Derived.Test.YtmgpiminicgbiaaEe
namespace Go.Proofs.Ytmgpiminicgbiaa
set_option linter.unusedVariables false
set_option linter.unusedSimpArgs false
open Go.RowKit

section
variable {P : Program} {G : Gh} {F : Nat → Prop} {w : World} {ro : Nat → Bool} {h : List AObj}
theorem unV_sound {op : UnOp} {u v : AV} {x : Value} (hq : unV op u = some v) (hx : RepV G (lens h) F w u x) : Yv P ro G F h w v (Op.unary op x) := by
  unfold unV at hq
  split at hq
  · have e := hx.c_inv
    subst e
    split at hq
    · injection hq with hq; subst hq
      exact ⟨_, fun w' _ => by simp [Op.unary], .cc _⟩
    · cases hq
  · have e := hx.c_inv
    subst e
    split at hq
    · injection hq with hq; subst hq
      exact ⟨_, fun w' _ => by simp [Op.unary, Op.intArith], .cc _⟩
    · injection hq with hq; subst hq
      exact ⟨_, fun w' _ => by simp [Op.unary, Op.intBits], .cc _⟩
    · cases hq
  · cases hq
theorem lenV_sound {t ty : TypeId} {u : AV} {q : Prop × Nat} {x : Value} (hq : lenV P h t u = some q) (hs : q.1) (hx : RepV G (lens h) F w u x) : Yv P ro G F h w (.c (.int .i64 q.2)) (Builtin.len_ #[t] ty #[x]) := by
  unfold lenV at hq
  split at hq
  · have e := hx.c_inv
    subst e
    split at hq
    · rename_i ht
      injection hq with hq; subst hq
      exact ⟨_, fun w' _ => by simp [Builtin.len_, run_underlying (isStrT_inv ht), goInt], .cc _⟩
    · cases hq
  · have e := hx.c_inv
    subst e
    split at hq
    · rename_i ht
      injection hq with hq; subst hq
      obtain ⟨e, he⟩ := slT_some ht
      exact ⟨_, fun w' _ => by simp [Builtin.len_, run_underlying he, goInt], .cc _⟩
    · cases hq
  · split at hq
    · rename_i ht
      injection hq with hq; subst hq
      obtain ⟨e, he⟩ := slT_some ht
      obtain ⟨A, c, rfl, _⟩ := fsD_inv (fs_inv hx)
      exact ⟨_, fun w' _ => by simp [Builtin.len_, run_underlying he, goInt], .cc _⟩
    · cases hq
  · split at hq
    · rename_i ht
      injection hq with hq; subst hq
      obtain ⟨e, he⟩ := slT_some ht
      rcases sl_inv hx hs with ⟨_, _, rfl, _, rfl⟩ | ⟨_, c, rfl, _⟩
      · exact ⟨_, fun w' _ => by simp [Builtin.len_, run_underlying he, goInt], .cc _⟩
      · exact ⟨_, fun w' _ => by simp [Builtin.len_, run_underlying he, goInt], .cc _⟩
    · cases hq
  · cases hq
theorem max2_sound {u v z : AV} {x y : Value} {ats : Array TypeId} {ty : TypeId} (hq : max2V u v = some z) (hx : RepV G (lens h) F w u x) (hy : RepV G (lens h) F w v y) : Yv P ro G F h w z (Builtin.max_ ats ty #[x, y]) := by
  unfold max2V at hq
  split at hq
  · have e := hx.c_inv
    have e' := hy.c_inv
    subst e e'
    split at hq
    · rename_i hk
      subst hk
      injection hq with hq; subst hq
      refine ⟨_, fun w' _ => by simp [Builtin.max_, Builtin.max2]; rfl, ?_⟩
      rename_i k a b
      have : (if b > a then b else a) = max a b := by omega
      rw [this]
      exact .cc _
    · cases hq
  · cases hq
theorem min2_sound {u v z : AV} {x y : Value} {ats : Array TypeId} {ty : TypeId} (hq : min2V u v = some z) (hx : RepV G (lens h) F w u x) (hy : RepV G (lens h) F w v y) : Yv P ro G F h w z (Builtin.min_ ats ty #[x, y]) := by
  unfold min2V at hq
  split at hq
  · have e := hx.c_inv
    have e' := hy.c_inv
    subst e e'
    split at hq
    · rename_i hk
      subst hk
      injection hq with hq; subst hq
      refine ⟨_, fun w' _ => by simp [Builtin.min_, Builtin.min2]; rfl, ?_⟩
      rename_i k a b
      have : (if b < a then b else a) = min a b := by omega
      rw [this]
      exact .cc _
    · cases hq
  · cases hq

theorem isU8_inv {u : AV} (hu : isU8 u = true) : u = .c (u8 (u8of u)) := by
  unfold isU8 at hu
  split at hu
  · rename_i n
    simp at hu
    simp [u8, u8of]
    omega
  · cases hu
theorem view_rd {u : AV} {p : Nat × List AV} {x : Value} (hh : HRel G F h w) (hv : viewS ro h u = some p) (hx : RepV G (lens h) F w u x) :
    ∃ A n c, x = .slice A n c ∧ p.2.length = n * p.1 ∧
      ∃ f : Nat → Value, (∀ w', SameOn ro G F h w w' → 0 < n → ∃ b o, A = some ⟨b, o, none⟩ ∧ ∀ j, j < p.2.length → w'.cell? ⟨b, o + j, none⟩ = some (f j)) ∧ ∀ (j : Nat) (u : AV), p.2[j]? = some u → RepV G (lens h) F w u (f j) := by
  unfold viewS at hv
  split at hv
  · rename_i sz n l'
    injection hv with hv; subst hv
    obtain ⟨A, c, rfl, h1, h2, h3, h4⟩ := fsD_inv (fs_inv hx)
    rcases Nat.eq_zero_or_pos n with h0 | h0
    · subst h0
      have : l' = [] := List.eq_nil_of_length_eq_zero (by simpa using h3)
      subst this
      exact ⟨A, 0, c, rfl, h3, fun _ => undef, fun _ _ h => absurd h (by omega), fun j u hj => by simp at hj⟩
    · obtain ⟨b, o, f, rfl, hF, hc, hr⟩ := h4 h0
      exact ⟨_, n, c, rfl, h3, f, fun w' hso _ => ⟨b, o, rfl, fun j hj => by rw [World.cell?_of_block (a := ⟨b, o + j, none⟩) (hso b (.inl hF))]; exact hc j hj⟩, fun j u hj => .d _ _ (hr j u hj)⟩
  · rename_i k sz off n m
    rw [Option.bind_eq_some_iff] at hv
    obtain ⟨cs, hcs, hv⟩ := hv
    split at hv
    · rename_i hm
      obtain ⟨hm, hro, hle⟩ := hm
      injection hv with hv; subst hv
      obtain ⟨kd, hk, hln⟩ := cellsH_at hcs
      rw [hm] at hln
      have hlen : ((cs.drop off).take (n * sz)).length = n * sz := by simp; omega
      rcases sl_inv hx hln with ⟨h1, rfl, rfl, rfl, rfl⟩ | ⟨hv, c, rfl, h3, h4, h5⟩
      · exact ⟨none, 0, 0, rfl, hlen, fun _ => undef, fun _ _ h => absurd h (by omega), fun j u hj => by simp at hj⟩
      · obtain ⟨cur, ty, fr, hb, hsz, hcr⟩ := hh.cells hk hv
        refine ⟨_, n, c, rfl, hlen, fun j => cur.getD (off + j) undef, fun w' hso _ => ⟨_, _, rfl, fun j hj => ?_⟩, fun j u hu => ?_⟩
        · rw [World.cell?_of_block (a := ⟨G.σ k, off + j, none⟩) (hso (G.σ k) (.inr ⟨k, _, hk, hro, hv, rfl⟩)), cell_cells hb]
          simp only at hj
          have : off + j < cur.size := by omega
          simp [Array.getD, this]
        · simp only at hu
          rw [List.getElem?_take] at hu
          split at hu
          · rw [drop_at] at hu
            obtain ⟨y, hy, hr⟩ := hcr _ _ hu
            have : cur.getD (off + j) undef = y := by rw [Array.getD_eq_getD_getElem?, hy]; rfl
            show RepV _ _ _ _ _ (cur.getD (off + j) undef)
            rw [this]; exact hr
          · cases hu
    · cases hv
  · injection hv with hv; subst hv
    have e := hx.c_inv
    subst e
    exact ⟨none, 0, 0, rfl, rfl, fun _ => undef, fun _ _ h => absurd h (by omega), fun j u hj => by simp at hj⟩
  · cases hv
/-- bytes that are known to be such -/
theorem view_bytes {l : List AV} {n : Nat} {A : Option Addr} (hl : l.length = n * 1) (hu : l.all isU8 = true) {f : Nat → Value} {w' : World} (h2 : 0 < n → ∃ b o, A = some ⟨b, o, none⟩ ∧ ∀ j, j < l.length → w'.cell? ⟨b, o + j, none⟩ = some (f j))
    (h3 : ∀ (j : Nat) (u : AV), l[j]? = some u → RepV G (lens h) F w u (f j)) : Rd w' 1 A n (u8s (l.map u8of)) := by
  refine ⟨by simpa using hl, fun hn => ?_⟩
  obtain ⟨b, o, rfl, hc⟩ := h2 hn
  refine ⟨_, rfl, fun j u hj => ?_⟩
  rw [addE]
  simp only [u8s, List.map_map, List.getElem?_map, Option.map_eq_some_iff] at hj
  obtain ⟨v, hv, rfl⟩ := hj
  have hj : j < l.length := (List.getElem?_eq_some_iff.1 hv).1
  rw [hc j hj]
  have hr := h3 j v hv
  have h8 := List.all_eq_true.1 hu v (List.mem_of_getElem? hv)
  rw [isU8_inv h8] at hr
  rw [hr.c_inv]
  rfl
theorem convV_sound {src dst : TypeId} {u : AV} {q : Prop × AV} {x : Value} (hh : HRel G F h w) (hq : convV P ro h src dst u = some q) (hs : q.1) (hx : RepV G (lens h) F w u x) : Yv P ro G F h w q.2 (convert src dst x) := by
  unfold convV at hq
  split at hq
  · rename_i k0 n
    have e := hx.c_inv
    subst e
    rw [Option.bind_eq_some_iff] at hq
    obtain ⟨k, hk, hq⟩ := hq
    split at hq
    · rename_i hsrc
      injection hq with hq; subst hq
      obtain ⟨k1, hk1⟩ := Option.isSome_iff_exists.1 hsrc
      exact ⟨_, fun w' _ => by simp [convert, run_underlying (intT_inv hk), run_underlying (intT_inv hk1), Conv.intToInt], .cc _⟩
    · cases hq
  · rename_i s
    have e := hx.c_inv
    subst e
    split at hq
    · rename_i ht
      injection hq with hq; subst hq
      simp only [Bool.and_eq_true] at ht
      exact ⟨_, fun w' _ => by simp [convert, run_underlying (isStrT_inv ht.1), run_underlying (isStrT_inv ht.2)], .cc _⟩
    · cases hq
  · split at hq
    · rename_i ht
      split at hq
      · rename_i e by_ l hsl hview
        split at hq
        · rename_i he
          injection hq with hq; subst hq
          obtain ⟨A, n, c, rfl, h1, f, h2, h3⟩ := view_rd (ro := ro) hh hview hx
          obtain ⟨ti, g1, g2, g3, g4⟩ := slT_inv hsl
          exact ⟨_, fun w' hso => run_string_of w' src dst e A n c _ g1 (intT_inv he) (isStrT_inv ht) (view_bytes (w' := w') h1 hs (h2 w' hso) h3), .cc _⟩
        · cases hq
      · cases hq
    · cases hq
end
end Go.Proofs.Ytmgpiminicgbiaa
