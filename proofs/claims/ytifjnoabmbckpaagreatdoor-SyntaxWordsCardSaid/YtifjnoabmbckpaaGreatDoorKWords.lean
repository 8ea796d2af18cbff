import Derived.Test.YtifjnoabmbckpaaGreatDoorKTab
/- known of layer 22, and the law SyntaxWords: the walks. -/
namespace Go.Proofs.YtifjnoabmbckpaaGreatDoor.K
open Go Go.Den Go.Ev
set_option maxRecDepth 1000000

theorem known_run : evF .lf tab 1000 16 [] .lf 5 isT = true := by kernel_rfl

theorem known_tri : Tri Tryz.prog 16 [] (fun _ => none) fun v _ => v = .bool true := closed_run mixedO oraNone tabOk LR.nil known_run

/-- known is known. -/
def knownO (args : List LV) : Option LV :=
  match args with
  | [] => some (.bool true)
  | _ => none

def ora : Ora := .nd .lf none (.nd (.nd (.nd (.nd .lf (some knownO) .lf) none .lf) none .lf) none .lf)

theorem knownO_ok (args : List LV) (r : LV) (h : knownO args = some r) (ρ : Rho) (args' : List Value) (hl : LR ρ args args') : ∃ v, VR ρ r v ∧ ∀ h, Tri Tryz.prog 16 args' h fun v' h' => v' = v ∧ h' = h := by
  unfold knownO at h
  split at h
  · cases h; exact ora_const known_tri ρ args' hl
  · cases h

theorem oraOk : OraOk Tryz.prog ora := fun f o args r hf =>
  T.AllP.get (t := ora) (g := fun k => k) (p := fun f o => ∀ args r, o args = some r → ∀ (ρ : Rho) (args' : List Value), LR ρ args args' → ∃ v, VR ρ r v ∧ ∀ h, Tri Tryz.prog f args' h fun v' h' => v' = v ∧ h' = h)
    ⟨(fun x h => by cases h), trivial, ⟨(fun x h => by cases h), ⟨(fun x h => by cases h), ⟨(fun x h => by cases h), ⟨(fun x h => by cases h; exact knownO_ok), trivial, trivial⟩, trivial⟩, trivial⟩, trivial⟩⟩ hf args r

/-- The words with which a text is compared. -/
def words : List (Nat × Nat) := [(nat_lit 4, nat_lit 1801807216), (nat_lit 4, nat_lit 1701539696), (nat_lit 6, nat_lit 119182900487531), (nat_lit 2, nat_lit 31868), (nat_lit 2, nat_lit 9766), (nat_lit 1, nat_lit 124), (nat_lit 1, nat_lit 94), (nat_lit 1, nat_lit 38), (nat_lit 2, nat_lit 15677), (nat_lit 2, nat_lit 15649), (nat_lit 1, nat_lit 60), (nat_lit 2, nat_lit 15676), (nat_lit 1, nat_lit 62), (nat_lit 2, nat_lit 15678), (nat_lit 2, nat_lit 15420), (nat_lit 2, nat_lit 15934), (nat_lit 1, nat_lit 43), (nat_lit 1, nat_lit 45), (nat_lit 1, nat_lit 42), (nat_lit 1, nat_lit 47), (nat_lit 1, nat_lit 37)]

def wordsRun : List (Nat × Nat) → Bool
  | [] => true
  | p :: l => match evF ora tab 1000 7 [.str p.1 p.2] .lf 5 isT with
    | true => wordsRun l
    | false => false

theorem words_run : wordsRun words = true := by kernel_rfl
theorem sym_run : evF ora tab 1000 7 [.sym words] .lf 5 isT = true := by kernel_rfl

theorem wordsRun_mem : ∀ {l : List (Nat × Nat)}, wordsRun l = true → ∀ p, p ∈ l → evF ora tab 1000 7 [.str p.1 p.2] .lf 5 isT = true
  | [], _, p, hp => by cases hp
  | q :: l, h, p, hp => by
    simp only [wordsRun] at h
    split at h
    · rename_i h1
      cases hp with
      | head => exact h1
      | tail _ ht => exact wordsRun_mem h p ht
    · cases h

theorem words_tri (s : List UInt8) : Tri Tryz.prog 7 [.string ⟨⟨s⟩⟩] (fun _ => none) fun v _ => v = .bool true := by
  by_cases hs : ∃ p, p ∈ words ∧ s = bytesOf p.1 p.2
  · obtain ⟨p, hp, rfl⟩ := hs
    exact closed_run mixedO oraOk tabOk (LR.cons (.str _ _) LR.nil) (wordsRun_mem words_run p hp)
  · exact closed_run mixedO oraOk tabOk (LR.cons (.sym fun p hp e => hs ⟨p, hp, e⟩) LR.nil) sym_run
end Go.Proofs.YtifjnoabmbckpaaGreatDoor.K
