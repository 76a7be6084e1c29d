/- Contracts of functions, by evaluation (nothing is claimed here). -/
import Derived.Test.YtnhokcnnhmkbhaaDoorSh29
import Derived.KernelRfl
import Derived.Test.YtnhokcnnhmkbhaaDoorProg
import Derived.Test.YtnhokcnnhmkbhaaDoorHandlerHandleMatchesReferenceB1
set_option linter.unusedVariables false
set_option linter.unusedSimpArgs false
set_option maxRecDepth 100000
namespace Go.Proofs.YtnhokcnnhmkbhaaDoor
open Go
/-! ref02_May -/

def S_ref02_May : Spec := sig [.instr] [.b] (fun (i, _) => K.may i)
noncomputable def E_ref02_May : Env := EB.adds []

theorem ok_ref02_May : EnvOk E_ref02_May := okEB.adds (l := _) trivial

theorem t_c_ref02_May_0 (rd ra rb imm : Int) : evF E_ref02_May 60 44 [.agg (instrC ⟨0, rd, ra, rb, imm⟩)] = 
  Tree.leaf (SV.b false) := by kernel_rfl
theorem t_c_ref02_May_1 (rd ra rb imm : Int) : evF E_ref02_May 60 44 [.agg (instrC ⟨1, rd, ra, rb, imm⟩)] = 
  bif (decide (rd ≥ (0 : Int))) then
    (bif (decide (rd ≤ (15 : Int))) then
      (bif (decide (ra ≥ (0 : Int))) then
        (bif (decide (ra ≤ (15 : Int))) then
          (bif (decide (rb ≥ (0 : Int))) then
            (bif (decide (rb ≤ (15 : Int))) then
              (bif (BEq.beq imm (0 : Int)) then
                (Tree.leaf (SV.b true))
              else
                (Tree.leaf (SV.b false)))
            else
              (Tree.leaf (SV.b false)))
          else
            (Tree.leaf (SV.b false)))
        else
          (Tree.leaf (SV.b false)))
      else
        (Tree.leaf (SV.b false)))
    else
      (Tree.leaf (SV.b false)))
  else
    (Tree.leaf (SV.b false)) := by kernel_rfl
theorem t_c_ref02_May_2 (rd ra rb imm : Int) : evF E_ref02_May 60 44 [.agg (instrC ⟨2, rd, ra, rb, imm⟩)] = 
  bif (decide (rd ≥ (0 : Int))) then
    (bif (decide (rd ≤ (15 : Int))) then
      (bif (decide (ra ≥ (0 : Int))) then
        (bif (decide (ra ≤ (15 : Int))) then
          (bif (decide (rb ≥ (0 : Int))) then
            (bif (decide (rb ≤ (15 : Int))) then
              (bif (BEq.beq imm (0 : Int)) then
                (Tree.leaf (SV.b true))
              else
                (Tree.leaf (SV.b false)))
            else
              (Tree.leaf (SV.b false)))
          else
            (Tree.leaf (SV.b false)))
        else
          (Tree.leaf (SV.b false)))
      else
        (Tree.leaf (SV.b false)))
    else
      (Tree.leaf (SV.b false)))
  else
    (Tree.leaf (SV.b false)) := by kernel_rfl
theorem t_c_ref02_May_3 (rd ra rb imm : Int) : evF E_ref02_May 60 44 [.agg (instrC ⟨3, rd, ra, rb, imm⟩)] = 
  bif (decide (rd ≥ (0 : Int))) then
    (bif (decide (rd ≤ (15 : Int))) then
      (bif (decide (ra ≥ (0 : Int))) then
        (bif (decide (ra ≤ (15 : Int))) then
          (bif (decide (rb ≥ (0 : Int))) then
            (bif (decide (rb ≤ (15 : Int))) then
              (bif (BEq.beq imm (0 : Int)) then
                (Tree.leaf (SV.b true))
              else
                (Tree.leaf (SV.b false)))
            else
              (Tree.leaf (SV.b false)))
          else
            (Tree.leaf (SV.b false)))
        else
          (Tree.leaf (SV.b false)))
      else
        (Tree.leaf (SV.b false)))
    else
      (Tree.leaf (SV.b false)))
  else
    (Tree.leaf (SV.b false)) := by kernel_rfl
theorem t_c_ref02_May_4 (rd ra rb imm : Int) : evF E_ref02_May 60 44 [.agg (instrC ⟨4, rd, ra, rb, imm⟩)] = 
  bif (decide (rd ≥ (0 : Int))) then
    (bif (decide (rd ≤ (15 : Int))) then
      (bif (decide (ra ≥ (0 : Int))) then
        (bif (decide (ra ≤ (15 : Int))) then
          (bif (decide (rb ≥ (0 : Int))) then
            (bif (decide (rb ≤ (15 : Int))) then
              (bif (BEq.beq imm (0 : Int)) then
                (Tree.leaf (SV.b true))
              else
                (Tree.leaf (SV.b false)))
            else
              (Tree.leaf (SV.b false)))
          else
            (Tree.leaf (SV.b false)))
        else
          (Tree.leaf (SV.b false)))
      else
        (Tree.leaf (SV.b false)))
    else
      (Tree.leaf (SV.b false)))
  else
    (Tree.leaf (SV.b false)) := by kernel_rfl
theorem t_c_ref02_May_5 (rd ra rb imm : Int) : evF E_ref02_May 60 44 [.agg (instrC ⟨5, rd, ra, rb, imm⟩)] = 
  bif (decide (rd ≥ (0 : Int))) then
    (bif (decide (rd ≤ (15 : Int))) then
      (bif (decide (ra ≥ (0 : Int))) then
        (bif (decide (ra ≤ (15 : Int))) then
          (bif (decide (rb ≥ (0 : Int))) then
            (bif (decide (rb ≤ (15 : Int))) then
              (bif (BEq.beq imm (0 : Int)) then
                (Tree.leaf (SV.b true))
              else
                (Tree.leaf (SV.b false)))
            else
              (Tree.leaf (SV.b false)))
          else
            (Tree.leaf (SV.b false)))
        else
          (Tree.leaf (SV.b false)))
      else
        (Tree.leaf (SV.b false)))
    else
      (Tree.leaf (SV.b false)))
  else
    (Tree.leaf (SV.b false)) := by kernel_rfl
theorem t_c_ref02_May_6 (rd ra rb imm : Int) : evF E_ref02_May 60 44 [.agg (instrC ⟨6, rd, ra, rb, imm⟩)] = 
  bif (decide (rd ≥ (0 : Int))) then
    (bif (decide (rd ≤ (15 : Int))) then
      (bif (decide (ra ≥ (0 : Int))) then
        (bif (decide (ra ≤ (15 : Int))) then
          (bif (decide (rb ≥ (0 : Int))) then
            (bif (decide (rb ≤ (15 : Int))) then
              (bif (BEq.beq imm (0 : Int)) then
                (Tree.leaf (SV.b true))
              else
                (Tree.leaf (SV.b false)))
            else
              (Tree.leaf (SV.b false)))
          else
            (Tree.leaf (SV.b false)))
        else
          (Tree.leaf (SV.b false)))
      else
        (Tree.leaf (SV.b false)))
    else
      (Tree.leaf (SV.b false)))
  else
    (Tree.leaf (SV.b false)) := by kernel_rfl
theorem t_c_ref02_May_7 (rd ra rb imm : Int) : evF E_ref02_May 60 44 [.agg (instrC ⟨7, rd, ra, rb, imm⟩)] = 
  bif (decide (rd ≥ (0 : Int))) then
    (bif (decide (rd ≤ (15 : Int))) then
      (bif (decide (ra ≥ (0 : Int))) then
        (bif (decide (ra ≤ (15 : Int))) then
          (bif (decide (rb ≥ (0 : Int))) then
            (bif (decide (rb ≤ (15 : Int))) then
              (bif (BEq.beq imm (0 : Int)) then
                (Tree.leaf (SV.b true))
              else
                (Tree.leaf (SV.b false)))
            else
              (Tree.leaf (SV.b false)))
          else
            (Tree.leaf (SV.b false)))
        else
          (Tree.leaf (SV.b false)))
      else
        (Tree.leaf (SV.b false)))
    else
      (Tree.leaf (SV.b false)))
  else
    (Tree.leaf (SV.b false)) := by kernel_rfl
theorem t_c_ref02_May_8 (rd ra rb imm : Int) : evF E_ref02_May 60 44 [.agg (instrC ⟨8, rd, ra, rb, imm⟩)] = 
  bif (decide (rd ≥ (0 : Int))) then
    (bif (decide (rd ≤ (15 : Int))) then
      (bif (decide (ra ≥ (0 : Int))) then
        (bif (decide (ra ≤ (15 : Int))) then
          (bif (decide (rb ≥ (0 : Int))) then
            (bif (decide (rb ≤ (15 : Int))) then
              (bif (BEq.beq imm (0 : Int)) then
                (Tree.leaf (SV.b true))
              else
                (Tree.leaf (SV.b false)))
            else
              (Tree.leaf (SV.b false)))
          else
            (Tree.leaf (SV.b false)))
        else
          (Tree.leaf (SV.b false)))
      else
        (Tree.leaf (SV.b false)))
    else
      (Tree.leaf (SV.b false)))
  else
    (Tree.leaf (SV.b false)) := by kernel_rfl
theorem t_c_ref02_May_9 (rd ra rb imm : Int) : evF E_ref02_May 60 44 [.agg (instrC ⟨9, rd, ra, rb, imm⟩)] = 
  bif (decide (rd ≥ (0 : Int))) then
    (bif (decide (rd ≤ (15 : Int))) then
      (bif (decide (ra ≥ (0 : Int))) then
        (bif (decide (ra ≤ (15 : Int))) then
          (bif (BEq.beq rb (0 : Int)) then
            (bif (decide ((IntKind.wrap IntKind.i64 imm) ≥ (-131072 : Int))) then
              (bif (decide ((IntKind.wrap IntKind.i64 imm) < (131072 : Int))) then
                (Tree.leaf (SV.b true))
              else
                (Tree.leaf (SV.b false)))
            else
              (Tree.leaf (SV.b false)))
          else
            (Tree.leaf (SV.b false)))
        else
          (Tree.leaf (SV.b false)))
      else
        (Tree.leaf (SV.b false)))
    else
      (Tree.leaf (SV.b false)))
  else
    (Tree.leaf (SV.b false)) := by kernel_rfl
theorem t_c_ref02_May_10 (rd ra rb imm : Int) : evF E_ref02_May 60 44 [.agg (instrC ⟨10, rd, ra, rb, imm⟩)] = 
  bif (decide (rd ≥ (0 : Int))) then
    (bif (decide (rd ≤ (15 : Int))) then
      (bif (BEq.beq ra (0 : Int)) then
        (bif (BEq.beq rb (0 : Int)) then
          (bif (decide ((IntKind.wrap IntKind.i64 imm) ≥ (-131072 : Int))) then
            (bif (decide ((IntKind.wrap IntKind.i64 imm) < (131072 : Int))) then
              (Tree.leaf (SV.b true))
            else
              (Tree.leaf (SV.b false)))
          else
            (Tree.leaf (SV.b false)))
        else
          (Tree.leaf (SV.b false)))
      else
        (Tree.leaf (SV.b false)))
    else
      (Tree.leaf (SV.b false)))
  else
    (Tree.leaf (SV.b false)) := by kernel_rfl
theorem t_c_ref02_May_11 (rd ra rb imm : Int) : evF E_ref02_May 60 44 [.agg (instrC ⟨11, rd, ra, rb, imm⟩)] = 
  bif (decide (rd ≥ (0 : Int))) then
    (bif (decide (rd ≤ (15 : Int))) then
      (bif (decide (ra ≥ (0 : Int))) then
        (bif (decide (ra ≤ (15 : Int))) then
          (bif (BEq.beq rb (0 : Int)) then
            (bif (decide ((IntKind.wrap IntKind.i64 imm) ≥ (-131072 : Int))) then
              (bif (decide ((IntKind.wrap IntKind.i64 imm) < (131072 : Int))) then
                (Tree.leaf (SV.b true))
              else
                (Tree.leaf (SV.b false)))
            else
              (Tree.leaf (SV.b false)))
          else
            (Tree.leaf (SV.b false)))
        else
          (Tree.leaf (SV.b false)))
      else
        (Tree.leaf (SV.b false)))
    else
      (Tree.leaf (SV.b false)))
  else
    (Tree.leaf (SV.b false)) := by kernel_rfl
theorem t_c_ref02_May_12 (rd ra rb imm : Int) : evF E_ref02_May 60 44 [.agg (instrC ⟨12, rd, ra, rb, imm⟩)] = 
  bif (decide (rd ≥ (0 : Int))) then
    (bif (decide (rd ≤ (15 : Int))) then
      (bif (decide (ra ≥ (0 : Int))) then
        (bif (decide (ra ≤ (15 : Int))) then
          (bif (BEq.beq rb (0 : Int)) then
            (bif (decide ((IntKind.wrap IntKind.i64 imm) ≥ (-131072 : Int))) then
              (bif (decide ((IntKind.wrap IntKind.i64 imm) < (131072 : Int))) then
                (Tree.leaf (SV.b true))
              else
                (Tree.leaf (SV.b false)))
            else
              (Tree.leaf (SV.b false)))
          else
            (Tree.leaf (SV.b false)))
        else
          (Tree.leaf (SV.b false)))
      else
        (Tree.leaf (SV.b false)))
    else
      (Tree.leaf (SV.b false)))
  else
    (Tree.leaf (SV.b false)) := by kernel_rfl
theorem t_c_ref02_May_13 (rd ra rb imm : Int) : evF E_ref02_May 60 44 [.agg (instrC ⟨13, rd, ra, rb, imm⟩)] = 
  bif (decide (rd ≥ (0 : Int))) then
    (bif (decide (rd ≤ (15 : Int))) then
      (bif (decide (ra ≥ (0 : Int))) then
        (bif (decide (ra ≤ (15 : Int))) then
          (bif (BEq.beq rb (0 : Int)) then
            (bif (decide ((IntKind.wrap IntKind.i64 imm) ≥ (-131072 : Int))) then
              (bif (decide ((IntKind.wrap IntKind.i64 imm) < (131072 : Int))) then
                (Tree.leaf (SV.b true))
              else
                (Tree.leaf (SV.b false)))
            else
              (Tree.leaf (SV.b false)))
          else
            (Tree.leaf (SV.b false)))
        else
          (Tree.leaf (SV.b false)))
      else
        (Tree.leaf (SV.b false)))
    else
      (Tree.leaf (SV.b false)))
  else
    (Tree.leaf (SV.b false)) := by kernel_rfl
theorem t_c_ref02_May_14 (rd ra rb imm : Int) : evF E_ref02_May 60 44 [.agg (instrC ⟨14, rd, ra, rb, imm⟩)] = 
  bif (decide (rd ≥ (0 : Int))) then
    (bif (decide (rd ≤ (15 : Int))) then
      (bif (decide (ra ≥ (0 : Int))) then
        (bif (decide (ra ≤ (15 : Int))) then
          (bif (BEq.beq rb (0 : Int)) then
            (bif (decide ((IntKind.wrap IntKind.i64 imm) ≥ (-131072 : Int))) then
              (bif (decide ((IntKind.wrap IntKind.i64 imm) < (131072 : Int))) then
                (Tree.leaf (SV.b true))
              else
                (Tree.leaf (SV.b false)))
            else
              (Tree.leaf (SV.b false)))
          else
            (Tree.leaf (SV.b false)))
        else
          (Tree.leaf (SV.b false)))
      else
        (Tree.leaf (SV.b false)))
    else
      (Tree.leaf (SV.b false)))
  else
    (Tree.leaf (SV.b false)) := by kernel_rfl
theorem t_c_ref02_May_15 (rd ra rb imm : Int) : evF E_ref02_May 60 44 [.agg (instrC ⟨15, rd, ra, rb, imm⟩)] = 
  bif (decide (rd ≥ (0 : Int))) then
    (bif (decide (rd ≤ (15 : Int))) then
      (bif (decide (ra ≥ (0 : Int))) then
        (bif (decide (ra ≤ (15 : Int))) then
          (bif (BEq.beq rb (0 : Int)) then
            (bif (decide ((IntKind.wrap IntKind.i64 imm) ≥ (-131072 : Int))) then
              (bif (decide ((IntKind.wrap IntKind.i64 imm) < (131072 : Int))) then
                (Tree.leaf (SV.b true))
              else
                (Tree.leaf (SV.b false)))
            else
              (Tree.leaf (SV.b false)))
          else
            (Tree.leaf (SV.b false)))
        else
          (Tree.leaf (SV.b false)))
      else
        (Tree.leaf (SV.b false)))
    else
      (Tree.leaf (SV.b false)))
  else
    (Tree.leaf (SV.b false)) := by kernel_rfl
theorem t_c_ref02_May_16 (rd ra rb imm : Int) : evF E_ref02_May 60 44 [.agg (instrC ⟨16, rd, ra, rb, imm⟩)] = 
  bif (decide (rd ≥ (0 : Int))) then
    (bif (decide (rd ≤ (15 : Int))) then
      (bif (decide (ra ≥ (0 : Int))) then
        (bif (decide (ra ≤ (15 : Int))) then
          (bif (BEq.beq rb (0 : Int)) then
            (bif (decide ((IntKind.wrap IntKind.i64 imm) ≥ (-131072 : Int))) then
              (bif (decide ((IntKind.wrap IntKind.i64 imm) < (131072 : Int))) then
                (Tree.leaf (SV.b true))
              else
                (Tree.leaf (SV.b false)))
            else
              (Tree.leaf (SV.b false)))
          else
            (Tree.leaf (SV.b false)))
        else
          (Tree.leaf (SV.b false)))
      else
        (Tree.leaf (SV.b false)))
    else
      (Tree.leaf (SV.b false)))
  else
    (Tree.leaf (SV.b false)) := by kernel_rfl
theorem t_c_ref02_May_17 (rd ra rb imm : Int) : evF E_ref02_May 60 44 [.agg (instrC ⟨17, rd, ra, rb, imm⟩)] = 
  bif (decide (rd ≥ (0 : Int))) then
    (bif (decide (rd ≤ (15 : Int))) then
      (bif (decide (ra ≥ (0 : Int))) then
        (bif (decide (ra ≤ (15 : Int))) then
          (bif (BEq.beq rb (0 : Int)) then
            (bif (decide ((IntKind.wrap IntKind.i64 imm) ≥ (-131072 : Int))) then
              (bif (decide ((IntKind.wrap IntKind.i64 imm) < (131072 : Int))) then
                (Tree.leaf (SV.b true))
              else
                (Tree.leaf (SV.b false)))
            else
              (Tree.leaf (SV.b false)))
          else
            (Tree.leaf (SV.b false)))
        else
          (Tree.leaf (SV.b false)))
      else
        (Tree.leaf (SV.b false)))
    else
      (Tree.leaf (SV.b false)))
  else
    (Tree.leaf (SV.b false)) := by kernel_rfl
theorem t_c_ref02_May_18 (rd ra rb imm : Int) : evF E_ref02_May 60 44 [.agg (instrC ⟨18, rd, ra, rb, imm⟩)] = 
  bif (decide (rd ≥ (0 : Int))) then
    (bif (decide (rd ≤ (15 : Int))) then
      (bif (BEq.beq ra (0 : Int)) then
        (bif (BEq.beq rb (0 : Int)) then
          (bif (decide ((IntKind.wrap IntKind.i64 imm) ≥ (-131072 : Int))) then
            (bif (decide ((IntKind.wrap IntKind.i64 imm) < (131072 : Int))) then
              (Tree.leaf (SV.b true))
            else
              (Tree.leaf (SV.b false)))
          else
            (Tree.leaf (SV.b false)))
        else
          (Tree.leaf (SV.b false)))
      else
        (Tree.leaf (SV.b false)))
    else
      (Tree.leaf (SV.b false)))
  else
    (Tree.leaf (SV.b false)) := by kernel_rfl
theorem t_c_ref02_May_19 (rd ra rb imm : Int) : evF E_ref02_May 60 44 [.agg (instrC ⟨19, rd, ra, rb, imm⟩)] = 
  bif (decide (rd ≥ (0 : Int))) then
    (bif (decide (rd ≤ (15 : Int))) then
      (bif (decide (ra ≥ (0 : Int))) then
        (bif (decide (ra ≤ (15 : Int))) then
          (bif (BEq.beq rb (0 : Int)) then
            (bif (decide ((IntKind.wrap IntKind.i64 imm) ≥ (-131072 : Int))) then
              (bif (decide ((IntKind.wrap IntKind.i64 imm) < (131072 : Int))) then
                (Tree.leaf (SV.b true))
              else
                (Tree.leaf (SV.b false)))
            else
              (Tree.leaf (SV.b false)))
          else
            (Tree.leaf (SV.b false)))
        else
          (Tree.leaf (SV.b false)))
      else
        (Tree.leaf (SV.b false)))
    else
      (Tree.leaf (SV.b false)))
  else
    (Tree.leaf (SV.b false)) := by kernel_rfl
theorem t_c_ref02_May_20 (rd ra rb imm : Int) : evF E_ref02_May 60 44 [.agg (instrC ⟨20, rd, ra, rb, imm⟩)] = 
  bif (BEq.beq rd (0 : Int)) then
    (bif (BEq.beq ra (0 : Int)) then
      (bif (BEq.beq rb (0 : Int)) then
        (bif (BEq.beq imm (0 : Int)) then
          (Tree.leaf (SV.b true))
        else
          (Tree.leaf (SV.b false)))
      else
        (Tree.leaf (SV.b false)))
    else
      (Tree.leaf (SV.b false)))
  else
    (Tree.leaf (SV.b false)) := by kernel_rfl
theorem t_c_ref02_May_21 (rd ra rb imm : Int) : evF E_ref02_May 60 44 [.agg (instrC ⟨21, rd, ra, rb, imm⟩)] = 
  bif (decide (rd ≥ (0 : Int))) then
    (bif (decide (rd ≤ (15 : Int))) then
      (bif (BEq.beq ra (0 : Int)) then
        (bif (BEq.beq rb (0 : Int)) then
          (bif (decide (imm ≥ (0 : Int))) then
            (bif (decide (imm ≤ (11 : Int))) then
              (Tree.leaf (SV.b true))
            else
              (Tree.leaf (SV.b false)))
          else
            (Tree.leaf (SV.b false)))
        else
          (Tree.leaf (SV.b false)))
      else
        (Tree.leaf (SV.b false)))
    else
      (Tree.leaf (SV.b false)))
  else
    (Tree.leaf (SV.b false)) := by kernel_rfl
theorem t_c_ref02_May_22 (rd ra rb imm : Int) : evF E_ref02_May 60 44 [.agg (instrC ⟨22, rd, ra, rb, imm⟩)] = 
  bif (BEq.beq rd (0 : Int)) then
    (bif (decide (ra ≥ (0 : Int))) then
      (bif (decide (ra ≤ (15 : Int))) then
        (bif (BEq.beq rb (0 : Int)) then
          (bif (decide (imm ≥ (0 : Int))) then
            (bif (decide (imm ≤ (11 : Int))) then
              (Tree.leaf (SV.b true))
            else
              (Tree.leaf (SV.b false)))
          else
            (Tree.leaf (SV.b false)))
        else
          (Tree.leaf (SV.b false)))
      else
        (Tree.leaf (SV.b false)))
    else
      (Tree.leaf (SV.b false)))
  else
    (Tree.leaf (SV.b false)) := by kernel_rfl
theorem t_c_ref02_May_23 (rd ra rb imm : Int) : evF E_ref02_May 60 44 [.agg (instrC ⟨23, rd, ra, rb, imm⟩)] = 
  bif (BEq.beq rd (0 : Int)) then
    (bif (BEq.beq ra (0 : Int)) then
      (bif (BEq.beq rb (0 : Int)) then
        (bif (BEq.beq imm (0 : Int)) then
          (Tree.leaf (SV.b true))
        else
          (Tree.leaf (SV.b false)))
      else
        (Tree.leaf (SV.b false)))
    else
      (Tree.leaf (SV.b false)))
  else
    (Tree.leaf (SV.b false)) := by kernel_rfl
theorem t_c_ref02_May_24 (rd ra rb imm : Int) : evF E_ref02_May 60 44 [.agg (instrC ⟨24, rd, ra, rb, imm⟩)] = 
  bif (BEq.beq rd (0 : Int)) then
    (bif (BEq.beq ra (0 : Int)) then
      (bif (BEq.beq rb (0 : Int)) then
        (bif (BEq.beq imm (0 : Int)) then
          (Tree.leaf (SV.b true))
        else
          (Tree.leaf (SV.b false)))
      else
        (Tree.leaf (SV.b false)))
    else
      (Tree.leaf (SV.b false)))
  else
    (Tree.leaf (SV.b false)) := by kernel_rfl
theorem t_c_ref02_May_25 (rd ra rb imm : Int) : evF E_ref02_May 60 44 [.agg (instrC ⟨25, rd, ra, rb, imm⟩)] = 
  bif (BEq.beq rd (0 : Int)) then
    (bif (decide (ra ≥ (0 : Int))) then
      (bif (decide (ra ≤ (15 : Int))) then
        (bif (BEq.beq rb (0 : Int)) then
          (bif (BEq.beq imm (0 : Int)) then
            (Tree.leaf (SV.b true))
          else
            (Tree.leaf (SV.b false)))
        else
          (Tree.leaf (SV.b false)))
      else
        (Tree.leaf (SV.b false)))
    else
      (Tree.leaf (SV.b false)))
  else
    (Tree.leaf (SV.b false)) := by kernel_rfl
theorem t_c_ref02_May_n (m : Nat) (rd ra rb imm : Int) : evF E_ref02_May 60 44 [.agg (instrC ⟨.negSucc m, rd, ra, rb, imm⟩)] = .leaf (.b false) := by kernel_rfl
theorem t_c_ref02_May_o (m : Nat) (rd ra rb imm : Int) : evF E_ref02_May 60 44 [.agg (instrC ⟨.ofNat (m + 26), rd, ra, rb, imm⟩)] = .leaf (.b false) := by kernel_rfl
theorem a_c_ref02_May (i : PInstr) (ok_i : okInstr i) : (evF E_ref02_May 60 44 [.agg (instrC i)]).ends fun out_ => decO [.b] out_ = some (K.may i) := by
  obtain ⟨op, rd, ra, rb, imm⟩ := i
  obtain ⟨im0, im1⟩ := okI_i32 ok_i.imm
  have ew : IntKind.i64.wrap imm = imm := wrapI64 (by simp only at im0; omega) (by simp only at im1; omega)
  clear ok_i im0 im1
  have out : (op < 0 ∨ 26 ≤ op) → K.form op = 0 := fun h => by unfold K.form; (repeat' split) <;> first | rfl | omega
  rcases op_cases op with ⟨m, rfl⟩ | ⟨m, rfl⟩ | rfl | rfl | rfl | rfl | rfl | rfl | rfl | rfl | rfl | rfl | rfl | rfl | rfl | rfl | rfl | rfl | rfl | rfl | rfl | rfl | rfl | rfl | rfl | rfl | rfl | rfl 
  · rw [t_c_ref02_May_n, Tree.ends_holds]; simp only [Tree.holds_loop, Tree.holds_next, if_true, Tree.holds_cond, Tree.holds_letv, Tree.holds_leaf, Tree.holds_fail, decO, decA, decTup, decMach, decCore, decTrap, decInstr, decPart, decGuest, decConf, decEvent, decVcpu, bytesS, boolS, eventsS, intsS, guestsS, vcpusS, rowS, castL, Option.bind_some, Option.map_some, Option.some.injEq, Nat.beq_refl, beq_self_eq_true, Bool.and_self, cond_true, cond_false, eq_self, K.may, out (.inl (Int.negSucc_lt_zero m))]; rfl
  · rw [t_c_ref02_May_o, Tree.ends_holds]; simp only [Tree.holds_loop, Tree.holds_next, if_true, Tree.holds_cond, Tree.holds_letv, Tree.holds_leaf, Tree.holds_fail, decO, decA, decTup, decMach, decCore, decTrap, decInstr, decPart, decGuest, decConf, decEvent, decVcpu, bytesS, boolS, eventsS, intsS, guestsS, vcpusS, rowS, castL, Option.bind_some, Option.map_some, Option.some.injEq, Nat.beq_refl, beq_self_eq_true, Bool.and_self, cond_true, cond_false, eq_self, K.may, out (.inr (show (26 : Int) ≤ Int.ofNat (m + 26) by simp; omega))]; rfl

  · rw [t_c_ref02_May_0, Tree.ends_holds]; simp only [Tree.holds_loop, Tree.holds_next, if_true, Tree.holds_cond, Tree.holds_letv, Tree.holds_leaf, Tree.holds_fail, decO, decA, decTup, decMach, decCore, decTrap, decInstr, decPart, decGuest, decConf, decEvent, decVcpu, bytesS, boolS, eventsS, intsS, guestsS, vcpusS, rowS, castL, Option.bind_some, Option.map_some, Option.some.injEq, Nat.beq_refl, beq_self_eq_true, Bool.and_self, cond_true, cond_false, eq_self, beq_iff_eq, beq_eq_false_iff_ne, bne_iff_ne, bne_eq_false_iff_eq, ne_eq, decide_eq_true_eq, decide_eq_false_iff_not, ble_true, ble_false, inRange_iff, inRange_false, K.may, form_0, K.regOk, ew]
    clear out
    repeat' (first | refine drop_ok ?_ | intro _ | with_reducible apply And.intro)
    all_goals grind

  · rw [t_c_ref02_May_1, Tree.ends_holds]; simp only [Tree.holds_loop, Tree.holds_next, if_true, Tree.holds_cond, Tree.holds_letv, Tree.holds_leaf, Tree.holds_fail, decO, decA, decTup, decMach, decCore, decTrap, decInstr, decPart, decGuest, decConf, decEvent, decVcpu, bytesS, boolS, eventsS, intsS, guestsS, vcpusS, rowS, castL, Option.bind_some, Option.map_some, Option.some.injEq, Nat.beq_refl, beq_self_eq_true, Bool.and_self, cond_true, cond_false, eq_self, beq_iff_eq, beq_eq_false_iff_ne, bne_iff_ne, bne_eq_false_iff_eq, ne_eq, decide_eq_true_eq, decide_eq_false_iff_not, ble_true, ble_false, inRange_iff, inRange_false, K.may, form_1, K.regOk, ew]
    clear out
    repeat' (first | refine drop_ok ?_ | intro _ | with_reducible apply And.intro)
    all_goals grind

  · rw [t_c_ref02_May_2, Tree.ends_holds]; simp only [Tree.holds_loop, Tree.holds_next, if_true, Tree.holds_cond, Tree.holds_letv, Tree.holds_leaf, Tree.holds_fail, decO, decA, decTup, decMach, decCore, decTrap, decInstr, decPart, decGuest, decConf, decEvent, decVcpu, bytesS, boolS, eventsS, intsS, guestsS, vcpusS, rowS, castL, Option.bind_some, Option.map_some, Option.some.injEq, Nat.beq_refl, beq_self_eq_true, Bool.and_self, cond_true, cond_false, eq_self, beq_iff_eq, beq_eq_false_iff_ne, bne_iff_ne, bne_eq_false_iff_eq, ne_eq, decide_eq_true_eq, decide_eq_false_iff_not, ble_true, ble_false, inRange_iff, inRange_false, K.may, form_2, K.regOk, ew]
    clear out
    repeat' (first | refine drop_ok ?_ | intro _ | with_reducible apply And.intro)
    all_goals grind

  · rw [t_c_ref02_May_3, Tree.ends_holds]; simp only [Tree.holds_loop, Tree.holds_next, if_true, Tree.holds_cond, Tree.holds_letv, Tree.holds_leaf, Tree.holds_fail, decO, decA, decTup, decMach, decCore, decTrap, decInstr, decPart, decGuest, decConf, decEvent, decVcpu, bytesS, boolS, eventsS, intsS, guestsS, vcpusS, rowS, castL, Option.bind_some, Option.map_some, Option.some.injEq, Nat.beq_refl, beq_self_eq_true, Bool.and_self, cond_true, cond_false, eq_self, beq_iff_eq, beq_eq_false_iff_ne, bne_iff_ne, bne_eq_false_iff_eq, ne_eq, decide_eq_true_eq, decide_eq_false_iff_not, ble_true, ble_false, inRange_iff, inRange_false, K.may, form_3, K.regOk, ew]
    clear out
    repeat' (first | refine drop_ok ?_ | intro _ | with_reducible apply And.intro)
    all_goals grind

  · rw [t_c_ref02_May_4, Tree.ends_holds]; simp only [Tree.holds_loop, Tree.holds_next, if_true, Tree.holds_cond, Tree.holds_letv, Tree.holds_leaf, Tree.holds_fail, decO, decA, decTup, decMach, decCore, decTrap, decInstr, decPart, decGuest, decConf, decEvent, decVcpu, bytesS, boolS, eventsS, intsS, guestsS, vcpusS, rowS, castL, Option.bind_some, Option.map_some, Option.some.injEq, Nat.beq_refl, beq_self_eq_true, Bool.and_self, cond_true, cond_false, eq_self, beq_iff_eq, beq_eq_false_iff_ne, bne_iff_ne, bne_eq_false_iff_eq, ne_eq, decide_eq_true_eq, decide_eq_false_iff_not, ble_true, ble_false, inRange_iff, inRange_false, K.may, form_4, K.regOk, ew]
    clear out
    repeat' (first | refine drop_ok ?_ | intro _ | with_reducible apply And.intro)
    all_goals grind

  · rw [t_c_ref02_May_5, Tree.ends_holds]; simp only [Tree.holds_loop, Tree.holds_next, if_true, Tree.holds_cond, Tree.holds_letv, Tree.holds_leaf, Tree.holds_fail, decO, decA, decTup, decMach, decCore, decTrap, decInstr, decPart, decGuest, decConf, decEvent, decVcpu, bytesS, boolS, eventsS, intsS, guestsS, vcpusS, rowS, castL, Option.bind_some, Option.map_some, Option.some.injEq, Nat.beq_refl, beq_self_eq_true, Bool.and_self, cond_true, cond_false, eq_self, beq_iff_eq, beq_eq_false_iff_ne, bne_iff_ne, bne_eq_false_iff_eq, ne_eq, decide_eq_true_eq, decide_eq_false_iff_not, ble_true, ble_false, inRange_iff, inRange_false, K.may, form_5, K.regOk, ew]
    clear out
    repeat' (first | refine drop_ok ?_ | intro _ | with_reducible apply And.intro)
    all_goals grind

  · rw [t_c_ref02_May_6, Tree.ends_holds]; simp only [Tree.holds_loop, Tree.holds_next, if_true, Tree.holds_cond, Tree.holds_letv, Tree.holds_leaf, Tree.holds_fail, decO, decA, decTup, decMach, decCore, decTrap, decInstr, decPart, decGuest, decConf, decEvent, decVcpu, bytesS, boolS, eventsS, intsS, guestsS, vcpusS, rowS, castL, Option.bind_some, Option.map_some, Option.some.injEq, Nat.beq_refl, beq_self_eq_true, Bool.and_self, cond_true, cond_false, eq_self, beq_iff_eq, beq_eq_false_iff_ne, bne_iff_ne, bne_eq_false_iff_eq, ne_eq, decide_eq_true_eq, decide_eq_false_iff_not, ble_true, ble_false, inRange_iff, inRange_false, K.may, form_6, K.regOk, ew]
    clear out
    repeat' (first | refine drop_ok ?_ | intro _ | with_reducible apply And.intro)
    all_goals grind

  · rw [t_c_ref02_May_7, Tree.ends_holds]; simp only [Tree.holds_loop, Tree.holds_next, if_true, Tree.holds_cond, Tree.holds_letv, Tree.holds_leaf, Tree.holds_fail, decO, decA, decTup, decMach, decCore, decTrap, decInstr, decPart, decGuest, decConf, decEvent, decVcpu, bytesS, boolS, eventsS, intsS, guestsS, vcpusS, rowS, castL, Option.bind_some, Option.map_some, Option.some.injEq, Nat.beq_refl, beq_self_eq_true, Bool.and_self, cond_true, cond_false, eq_self, beq_iff_eq, beq_eq_false_iff_ne, bne_iff_ne, bne_eq_false_iff_eq, ne_eq, decide_eq_true_eq, decide_eq_false_iff_not, ble_true, ble_false, inRange_iff, inRange_false, K.may, form_7, K.regOk, ew]
    clear out
    repeat' (first | refine drop_ok ?_ | intro _ | with_reducible apply And.intro)
    all_goals grind

  · rw [t_c_ref02_May_8, Tree.ends_holds]; simp only [Tree.holds_loop, Tree.holds_next, if_true, Tree.holds_cond, Tree.holds_letv, Tree.holds_leaf, Tree.holds_fail, decO, decA, decTup, decMach, decCore, decTrap, decInstr, decPart, decGuest, decConf, decEvent, decVcpu, bytesS, boolS, eventsS, intsS, guestsS, vcpusS, rowS, castL, Option.bind_some, Option.map_some, Option.some.injEq, Nat.beq_refl, beq_self_eq_true, Bool.and_self, cond_true, cond_false, eq_self, beq_iff_eq, beq_eq_false_iff_ne, bne_iff_ne, bne_eq_false_iff_eq, ne_eq, decide_eq_true_eq, decide_eq_false_iff_not, ble_true, ble_false, inRange_iff, inRange_false, K.may, form_8, K.regOk, ew]
    clear out
    repeat' (first | refine drop_ok ?_ | intro _ | with_reducible apply And.intro)
    all_goals grind

  · rw [t_c_ref02_May_9, Tree.ends_holds]; simp only [Tree.holds_loop, Tree.holds_next, if_true, Tree.holds_cond, Tree.holds_letv, Tree.holds_leaf, Tree.holds_fail, decO, decA, decTup, decMach, decCore, decTrap, decInstr, decPart, decGuest, decConf, decEvent, decVcpu, bytesS, boolS, eventsS, intsS, guestsS, vcpusS, rowS, castL, Option.bind_some, Option.map_some, Option.some.injEq, Nat.beq_refl, beq_self_eq_true, Bool.and_self, cond_true, cond_false, eq_self, beq_iff_eq, beq_eq_false_iff_ne, bne_iff_ne, bne_eq_false_iff_eq, ne_eq, decide_eq_true_eq, decide_eq_false_iff_not, ble_true, ble_false, inRange_iff, inRange_false, K.may, form_9, K.regOk, ew]
    clear out
    repeat' (first | refine drop_ok ?_ | intro _ | with_reducible apply And.intro)
    all_goals grind

  · rw [t_c_ref02_May_10, Tree.ends_holds]; simp only [Tree.holds_loop, Tree.holds_next, if_true, Tree.holds_cond, Tree.holds_letv, Tree.holds_leaf, Tree.holds_fail, decO, decA, decTup, decMach, decCore, decTrap, decInstr, decPart, decGuest, decConf, decEvent, decVcpu, bytesS, boolS, eventsS, intsS, guestsS, vcpusS, rowS, castL, Option.bind_some, Option.map_some, Option.some.injEq, Nat.beq_refl, beq_self_eq_true, Bool.and_self, cond_true, cond_false, eq_self, beq_iff_eq, beq_eq_false_iff_ne, bne_iff_ne, bne_eq_false_iff_eq, ne_eq, decide_eq_true_eq, decide_eq_false_iff_not, ble_true, ble_false, inRange_iff, inRange_false, K.may, form_10, K.regOk, ew]
    clear out
    repeat' (first | refine drop_ok ?_ | intro _ | with_reducible apply And.intro)
    all_goals grind

  · rw [t_c_ref02_May_11, Tree.ends_holds]; simp only [Tree.holds_loop, Tree.holds_next, if_true, Tree.holds_cond, Tree.holds_letv, Tree.holds_leaf, Tree.holds_fail, decO, decA, decTup, decMach, decCore, decTrap, decInstr, decPart, decGuest, decConf, decEvent, decVcpu, bytesS, boolS, eventsS, intsS, guestsS, vcpusS, rowS, castL, Option.bind_some, Option.map_some, Option.some.injEq, Nat.beq_refl, beq_self_eq_true, Bool.and_self, cond_true, cond_false, eq_self, beq_iff_eq, beq_eq_false_iff_ne, bne_iff_ne, bne_eq_false_iff_eq, ne_eq, decide_eq_true_eq, decide_eq_false_iff_not, ble_true, ble_false, inRange_iff, inRange_false, K.may, form_11, K.regOk, ew]
    clear out
    repeat' (first | refine drop_ok ?_ | intro _ | with_reducible apply And.intro)
    all_goals grind

  · rw [t_c_ref02_May_12, Tree.ends_holds]; simp only [Tree.holds_loop, Tree.holds_next, if_true, Tree.holds_cond, Tree.holds_letv, Tree.holds_leaf, Tree.holds_fail, decO, decA, decTup, decMach, decCore, decTrap, decInstr, decPart, decGuest, decConf, decEvent, decVcpu, bytesS, boolS, eventsS, intsS, guestsS, vcpusS, rowS, castL, Option.bind_some, Option.map_some, Option.some.injEq, Nat.beq_refl, beq_self_eq_true, Bool.and_self, cond_true, cond_false, eq_self, beq_iff_eq, beq_eq_false_iff_ne, bne_iff_ne, bne_eq_false_iff_eq, ne_eq, decide_eq_true_eq, decide_eq_false_iff_not, ble_true, ble_false, inRange_iff, inRange_false, K.may, form_12, K.regOk, ew]
    clear out
    repeat' (first | refine drop_ok ?_ | intro _ | with_reducible apply And.intro)
    all_goals grind

  · rw [t_c_ref02_May_13, Tree.ends_holds]; simp only [Tree.holds_loop, Tree.holds_next, if_true, Tree.holds_cond, Tree.holds_letv, Tree.holds_leaf, Tree.holds_fail, decO, decA, decTup, decMach, decCore, decTrap, decInstr, decPart, decGuest, decConf, decEvent, decVcpu, bytesS, boolS, eventsS, intsS, guestsS, vcpusS, rowS, castL, Option.bind_some, Option.map_some, Option.some.injEq, Nat.beq_refl, beq_self_eq_true, Bool.and_self, cond_true, cond_false, eq_self, beq_iff_eq, beq_eq_false_iff_ne, bne_iff_ne, bne_eq_false_iff_eq, ne_eq, decide_eq_true_eq, decide_eq_false_iff_not, ble_true, ble_false, inRange_iff, inRange_false, K.may, form_13, K.regOk, ew]
    clear out
    repeat' (first | refine drop_ok ?_ | intro _ | with_reducible apply And.intro)
    all_goals grind

  · rw [t_c_ref02_May_14, Tree.ends_holds]; simp only [Tree.holds_loop, Tree.holds_next, if_true, Tree.holds_cond, Tree.holds_letv, Tree.holds_leaf, Tree.holds_fail, decO, decA, decTup, decMach, decCore, decTrap, decInstr, decPart, decGuest, decConf, decEvent, decVcpu, bytesS, boolS, eventsS, intsS, guestsS, vcpusS, rowS, castL, Option.bind_some, Option.map_some, Option.some.injEq, Nat.beq_refl, beq_self_eq_true, Bool.and_self, cond_true, cond_false, eq_self, beq_iff_eq, beq_eq_false_iff_ne, bne_iff_ne, bne_eq_false_iff_eq, ne_eq, decide_eq_true_eq, decide_eq_false_iff_not, ble_true, ble_false, inRange_iff, inRange_false, K.may, form_14, K.regOk, ew]
    clear out
    repeat' (first | refine drop_ok ?_ | intro _ | with_reducible apply And.intro)
    all_goals grind

  · rw [t_c_ref02_May_15, Tree.ends_holds]; simp only [Tree.holds_loop, Tree.holds_next, if_true, Tree.holds_cond, Tree.holds_letv, Tree.holds_leaf, Tree.holds_fail, decO, decA, decTup, decMach, decCore, decTrap, decInstr, decPart, decGuest, decConf, decEvent, decVcpu, bytesS, boolS, eventsS, intsS, guestsS, vcpusS, rowS, castL, Option.bind_some, Option.map_some, Option.some.injEq, Nat.beq_refl, beq_self_eq_true, Bool.and_self, cond_true, cond_false, eq_self, beq_iff_eq, beq_eq_false_iff_ne, bne_iff_ne, bne_eq_false_iff_eq, ne_eq, decide_eq_true_eq, decide_eq_false_iff_not, ble_true, ble_false, inRange_iff, inRange_false, K.may, form_15, K.regOk, ew]
    clear out
    repeat' (first | refine drop_ok ?_ | intro _ | with_reducible apply And.intro)
    all_goals grind

  · rw [t_c_ref02_May_16, Tree.ends_holds]; simp only [Tree.holds_loop, Tree.holds_next, if_true, Tree.holds_cond, Tree.holds_letv, Tree.holds_leaf, Tree.holds_fail, decO, decA, decTup, decMach, decCore, decTrap, decInstr, decPart, decGuest, decConf, decEvent, decVcpu, bytesS, boolS, eventsS, intsS, guestsS, vcpusS, rowS, castL, Option.bind_some, Option.map_some, Option.some.injEq, Nat.beq_refl, beq_self_eq_true, Bool.and_self, cond_true, cond_false, eq_self, beq_iff_eq, beq_eq_false_iff_ne, bne_iff_ne, bne_eq_false_iff_eq, ne_eq, decide_eq_true_eq, decide_eq_false_iff_not, ble_true, ble_false, inRange_iff, inRange_false, K.may, form_16, K.regOk, ew]
    clear out
    repeat' (first | refine drop_ok ?_ | intro _ | with_reducible apply And.intro)
    all_goals grind

  · rw [t_c_ref02_May_17, Tree.ends_holds]; simp only [Tree.holds_loop, Tree.holds_next, if_true, Tree.holds_cond, Tree.holds_letv, Tree.holds_leaf, Tree.holds_fail, decO, decA, decTup, decMach, decCore, decTrap, decInstr, decPart, decGuest, decConf, decEvent, decVcpu, bytesS, boolS, eventsS, intsS, guestsS, vcpusS, rowS, castL, Option.bind_some, Option.map_some, Option.some.injEq, Nat.beq_refl, beq_self_eq_true, Bool.and_self, cond_true, cond_false, eq_self, beq_iff_eq, beq_eq_false_iff_ne, bne_iff_ne, bne_eq_false_iff_eq, ne_eq, decide_eq_true_eq, decide_eq_false_iff_not, ble_true, ble_false, inRange_iff, inRange_false, K.may, form_17, K.regOk, ew]
    clear out
    repeat' (first | refine drop_ok ?_ | intro _ | with_reducible apply And.intro)
    all_goals grind

  · rw [t_c_ref02_May_18, Tree.ends_holds]; simp only [Tree.holds_loop, Tree.holds_next, if_true, Tree.holds_cond, Tree.holds_letv, Tree.holds_leaf, Tree.holds_fail, decO, decA, decTup, decMach, decCore, decTrap, decInstr, decPart, decGuest, decConf, decEvent, decVcpu, bytesS, boolS, eventsS, intsS, guestsS, vcpusS, rowS, castL, Option.bind_some, Option.map_some, Option.some.injEq, Nat.beq_refl, beq_self_eq_true, Bool.and_self, cond_true, cond_false, eq_self, beq_iff_eq, beq_eq_false_iff_ne, bne_iff_ne, bne_eq_false_iff_eq, ne_eq, decide_eq_true_eq, decide_eq_false_iff_not, ble_true, ble_false, inRange_iff, inRange_false, K.may, form_18, K.regOk, ew]
    clear out
    repeat' (first | refine drop_ok ?_ | intro _ | with_reducible apply And.intro)
    all_goals grind

  · rw [t_c_ref02_May_19, Tree.ends_holds]; simp only [Tree.holds_loop, Tree.holds_next, if_true, Tree.holds_cond, Tree.holds_letv, Tree.holds_leaf, Tree.holds_fail, decO, decA, decTup, decMach, decCore, decTrap, decInstr, decPart, decGuest, decConf, decEvent, decVcpu, bytesS, boolS, eventsS, intsS, guestsS, vcpusS, rowS, castL, Option.bind_some, Option.map_some, Option.some.injEq, Nat.beq_refl, beq_self_eq_true, Bool.and_self, cond_true, cond_false, eq_self, beq_iff_eq, beq_eq_false_iff_ne, bne_iff_ne, bne_eq_false_iff_eq, ne_eq, decide_eq_true_eq, decide_eq_false_iff_not, ble_true, ble_false, inRange_iff, inRange_false, K.may, form_19, K.regOk, ew]
    clear out
    repeat' (first | refine drop_ok ?_ | intro _ | with_reducible apply And.intro)
    all_goals grind

  · rw [t_c_ref02_May_20, Tree.ends_holds]; simp only [Tree.holds_loop, Tree.holds_next, if_true, Tree.holds_cond, Tree.holds_letv, Tree.holds_leaf, Tree.holds_fail, decO, decA, decTup, decMach, decCore, decTrap, decInstr, decPart, decGuest, decConf, decEvent, decVcpu, bytesS, boolS, eventsS, intsS, guestsS, vcpusS, rowS, castL, Option.bind_some, Option.map_some, Option.some.injEq, Nat.beq_refl, beq_self_eq_true, Bool.and_self, cond_true, cond_false, eq_self, beq_iff_eq, beq_eq_false_iff_ne, bne_iff_ne, bne_eq_false_iff_eq, ne_eq, decide_eq_true_eq, decide_eq_false_iff_not, ble_true, ble_false, inRange_iff, inRange_false, K.may, form_20, K.regOk, ew]
    clear out
    repeat' (first | refine drop_ok ?_ | intro _ | with_reducible apply And.intro)
    all_goals grind

  · rw [t_c_ref02_May_21, Tree.ends_holds]; simp only [Tree.holds_loop, Tree.holds_next, if_true, Tree.holds_cond, Tree.holds_letv, Tree.holds_leaf, Tree.holds_fail, decO, decA, decTup, decMach, decCore, decTrap, decInstr, decPart, decGuest, decConf, decEvent, decVcpu, bytesS, boolS, eventsS, intsS, guestsS, vcpusS, rowS, castL, Option.bind_some, Option.map_some, Option.some.injEq, Nat.beq_refl, beq_self_eq_true, Bool.and_self, cond_true, cond_false, eq_self, beq_iff_eq, beq_eq_false_iff_ne, bne_iff_ne, bne_eq_false_iff_eq, ne_eq, decide_eq_true_eq, decide_eq_false_iff_not, ble_true, ble_false, inRange_iff, inRange_false, K.may, form_21, K.regOk, ew]
    clear out
    repeat' (first | refine drop_ok ?_ | intro _ | with_reducible apply And.intro)
    all_goals grind

  · rw [t_c_ref02_May_22, Tree.ends_holds]; simp only [Tree.holds_loop, Tree.holds_next, if_true, Tree.holds_cond, Tree.holds_letv, Tree.holds_leaf, Tree.holds_fail, decO, decA, decTup, decMach, decCore, decTrap, decInstr, decPart, decGuest, decConf, decEvent, decVcpu, bytesS, boolS, eventsS, intsS, guestsS, vcpusS, rowS, castL, Option.bind_some, Option.map_some, Option.some.injEq, Nat.beq_refl, beq_self_eq_true, Bool.and_self, cond_true, cond_false, eq_self, beq_iff_eq, beq_eq_false_iff_ne, bne_iff_ne, bne_eq_false_iff_eq, ne_eq, decide_eq_true_eq, decide_eq_false_iff_not, ble_true, ble_false, inRange_iff, inRange_false, K.may, form_22, K.regOk, ew]
    clear out
    repeat' (first | refine drop_ok ?_ | intro _ | with_reducible apply And.intro)
    all_goals grind

  · rw [t_c_ref02_May_23, Tree.ends_holds]; simp only [Tree.holds_loop, Tree.holds_next, if_true, Tree.holds_cond, Tree.holds_letv, Tree.holds_leaf, Tree.holds_fail, decO, decA, decTup, decMach, decCore, decTrap, decInstr, decPart, decGuest, decConf, decEvent, decVcpu, bytesS, boolS, eventsS, intsS, guestsS, vcpusS, rowS, castL, Option.bind_some, Option.map_some, Option.some.injEq, Nat.beq_refl, beq_self_eq_true, Bool.and_self, cond_true, cond_false, eq_self, beq_iff_eq, beq_eq_false_iff_ne, bne_iff_ne, bne_eq_false_iff_eq, ne_eq, decide_eq_true_eq, decide_eq_false_iff_not, ble_true, ble_false, inRange_iff, inRange_false, K.may, form_23, K.regOk, ew]
    clear out
    repeat' (first | refine drop_ok ?_ | intro _ | with_reducible apply And.intro)
    all_goals grind

  · rw [t_c_ref02_May_24, Tree.ends_holds]; simp only [Tree.holds_loop, Tree.holds_next, if_true, Tree.holds_cond, Tree.holds_letv, Tree.holds_leaf, Tree.holds_fail, decO, decA, decTup, decMach, decCore, decTrap, decInstr, decPart, decGuest, decConf, decEvent, decVcpu, bytesS, boolS, eventsS, intsS, guestsS, vcpusS, rowS, castL, Option.bind_some, Option.map_some, Option.some.injEq, Nat.beq_refl, beq_self_eq_true, Bool.and_self, cond_true, cond_false, eq_self, beq_iff_eq, beq_eq_false_iff_ne, bne_iff_ne, bne_eq_false_iff_eq, ne_eq, decide_eq_true_eq, decide_eq_false_iff_not, ble_true, ble_false, inRange_iff, inRange_false, K.may, form_24, K.regOk, ew]
    clear out
    repeat' (first | refine drop_ok ?_ | intro _ | with_reducible apply And.intro)
    all_goals grind

  · rw [t_c_ref02_May_25, Tree.ends_holds]; simp only [Tree.holds_loop, Tree.holds_next, if_true, Tree.holds_cond, Tree.holds_letv, Tree.holds_leaf, Tree.holds_fail, decO, decA, decTup, decMach, decCore, decTrap, decInstr, decPart, decGuest, decConf, decEvent, decVcpu, bytesS, boolS, eventsS, intsS, guestsS, vcpusS, rowS, castL, Option.bind_some, Option.map_some, Option.some.injEq, Nat.beq_refl, beq_self_eq_true, Bool.and_self, cond_true, cond_false, eq_self, beq_iff_eq, beq_eq_false_iff_ne, bne_iff_ne, bne_eq_false_iff_eq, ne_eq, decide_eq_true_eq, decide_eq_false_iff_not, ble_true, ble_false, inRange_iff, inRange_false, K.may, form_25, K.regOk, ew]
    clear out
    repeat' (first | refine drop_ok ?_ | intro _ | with_reducible apply And.intro)
    all_goals grind

theorem c_ref02_May : SpecOk EB 44 S_ref02_May := spec_sig ok_ref02_May (n := 60) fun ⟨i, ⟨⟩⟩ h hok => a_c_ref02_May i (ok_instr (okSL_head hok))


/-! ref01_Low -/

def S_ref01_Low : Spec := sig [.i .i32, .i .i64] [.i .u32] (fun (v, n, _) => v % 262144) (pre := fun (v, n, _) => decide (n = 18))
noncomputable def E_ref01_Low : Env := EB.adds [(68, S_ref01_Pow)]

theorem ok_ref01_Low : EnvOk E_ref01_Low := okEB.adds (l := _) ⟨c_ref01_Pow, trivial⟩

theorem t_ref01_Low (v : Int) (n : Int) : evF E_ref01_Low 60 45 (encArgs [.i .i32, .i .i64] (v, n, ())) = 
  bif (decide ((IntKind.wrap IntKind.i64 v) < (0 : Int))) then
    (bif (decide (n ≤ (63 : Int))) then
      (Tree.letv (okO [(AT.i IntKind.u64)]) (K.pow n) fun x0 =>
      (bif (bne x0 (0 : Int)) then
        (Tree.leaf (SV.v (Value.int IntKind.u32 (IntKind.wrap IntKind.u32 (Int.tmod (IntKind.wrap IntKind.u64 (IntKind.wrap IntKind.i64 ((IntKind.wrap IntKind.i64 v) + (4294967296 : Int)))) x0)))))
      else
        (Tree.fail)))
    else
      (Tree.fail))
  else
    (bif (decide (n ≤ (63 : Int))) then
      (Tree.letv (okO [(AT.i IntKind.u64)]) (K.pow n) fun x0 =>
      (bif (bne x0 (0 : Int)) then
        (Tree.leaf (SV.v (Value.int IntKind.u32 (IntKind.wrap IntKind.u32 (Int.tmod (IntKind.wrap IntKind.u64 (IntKind.wrap IntKind.i64 v)) x0)))))
      else
        (Tree.fail)))
    else
      (Tree.fail)) := by kernel_rfl
theorem a_ref01_Low (v : Int) (n : Int) (hpre : n = 18) (ok_v : okI .i32 v) (ok_n : okI .i64 n) : (evF E_ref01_Low 60 45 (encArgs [.i .i32, .i .i64] (v, n, ()))).ends fun out_ => decO [.i .u32] out_ = some (v % 262144) := by
  rw [t_ref01_Low, Tree.ends_holds]
  obtain ⟨v0, v1⟩ := okI_i32 ok_v
  subst hpre
  have e0 : IntKind.i64.wrap v = v := wrapI64 (by omega) (by omega)
  have e1 : K.pow 18 = 262144 := by decide
  have e3 : IntKind.i64.wrap (v + 4294967296) = v + 4294967296 := wrapI64 (by omega) (by omega)
  simp only [Tree.holds_loop, Tree.holds_next, if_true, Tree.holds_cond, Tree.holds_letv, Tree.holds_leaf, Tree.holds_fail, decO, decA, decTup, decMach, decCore, decTrap, decInstr, decPart, decGuest, decConf, decEvent, decVcpu, bytesS, boolS, eventsS, intsS, guestsS, vcpusS, rowS, castL, Option.bind_some, Option.map_some, Option.some.injEq, Nat.beq_refl, beq_self_eq_true, Bool.and_self, cond_true, cond_false, eq_self, beq_iff_eq, beq_eq_false_iff_ne, bne_iff_ne, bne_eq_false_iff_eq, ne_eq, decide_eq_true_eq, decide_eq_false_iff_not, ble_true, ble_false, inRange_iff, inRange_false, e0, e1, e3, wrap32, wrap64]
  have t1 : Int.tmod (v % 18446744073709551616) 262144 % 4294967296 = v % 262144 := by rw [Int.tmod_eq_emod_of_nonneg (by omega)]; omega
  have t2 : Int.tmod ((v + 4294967296) % 18446744073709551616) 262144 % 4294967296 = v % 262144 := by rw [Int.tmod_eq_emod_of_nonneg (by omega)]; omega
  simp only [t1, t2]
  repeat' (first | refine drop_ok ?_ | intro _ | with_reducible apply And.intro)
  all_goals first | omega | (simp_all; done)
  
theorem c_ref01_Low : SpecOk EB 45 S_ref01_Low := spec_sig ok_ref01_Low (n := 60) fun ⟨v, n, ⟨⟩⟩ h hok => a_ref01_Low v n (of_decide_eq_true h) (ok_int (okSL_head hok)) (ok_int (okSL_head (okSL_tail hok)))

/-! ref02_Encode -/

def S_ref02_Encode : Spec := sig [.instr] [.i .u32, .b] (fun (i, _) => K.encode i)
noncomputable def E_ref02_Encode : Env := EB.adds [(44, S_ref02_May), (42, S_ref02_Form), (45, S_ref01_Low)]

theorem ok_ref02_Encode : EnvOk E_ref02_Encode := okEB.adds (l := _) ⟨c_ref02_May, c_ref02_Form, c_ref01_Low, trivial⟩

theorem t_ref02_Encode (i : PInstr) : evF E_ref02_Encode 60 21 (encArgs [.instr] (i, ())) = 
  Tree.letv (okO [AT.b]) (K.may i) fun x0 =>
  (bif x0 then
    (Tree.letv (okO [(AT.i IntKind.u32)]) (i.imm % (262144 : Int)) fun x1 =>
    (Tree.letv (okO [(AT.i IntKind.i64)]) (K.form i.op) fun x2 =>
    (bif (BEq.beq x2 (1 : Int)) then
      (Tree.leaf (SV.tup [(SV.v (Value.int IntKind.u32 (IntKind.wrap IntKind.u32 (IntKind.wrap IntKind.u64 ((IntKind.wrap IntKind.u64 ((IntKind.wrap IntKind.u64 ((IntKind.wrap IntKind.u64 ((IntKind.wrap IntKind.u64 i.op) * (67108864 : Int))) + (IntKind.wrap IntKind.u64 ((IntKind.wrap IntKind.u64 i.rd) * (4194304 : Int))))) + (IntKind.wrap IntKind.u64 ((IntKind.wrap IntKind.u64 i.ra) * (262144 : Int))))) + (IntKind.wrap IntKind.u64 i.rb)))))), (SV.b true)]))
    else
      (Tree.leaf (SV.tup [(SV.v (Value.int IntKind.u32 (IntKind.wrap IntKind.u32 (IntKind.wrap IntKind.u64 ((IntKind.wrap IntKind.u64 ((IntKind.wrap IntKind.u64 ((IntKind.wrap IntKind.u64 ((IntKind.wrap IntKind.u64 i.op) * (67108864 : Int))) + (IntKind.wrap IntKind.u64 ((IntKind.wrap IntKind.u64 i.rd) * (4194304 : Int))))) + (IntKind.wrap IntKind.u64 ((IntKind.wrap IntKind.u64 i.ra) * (262144 : Int))))) + (IntKind.wrap IntKind.u64 x1)))))), (SV.b true)])))))
  else
    (Tree.leaf (SV.tup [(SV.v (Value.int IntKind.u32 (0 : Int))), (SV.b false)]))) := by kernel_rfl
theorem a_ref02_Encode (i : PInstr) (ok_i : okInstr i) : (evF E_ref02_Encode 60 21 (encArgs [.instr] (i, ()))).ends fun out_ => decO [.i .u32, .b] out_ = some (K.encode i) := by
  rw [t_ref02_Encode, Tree.ends_holds]
  simp only [Tree.holds_loop, Tree.holds_next, if_true, Tree.holds_cond, Tree.holds_letv, Tree.holds_leaf, Tree.holds_fail, decO, decA, decTup, decMach, decCore, decTrap, decInstr, decPart, decGuest, decConf, decEvent, decVcpu, bytesS, boolS, eventsS, intsS, guestsS, vcpusS, rowS, castL, Option.bind_some, Option.map_some, Option.some.injEq, Nat.beq_refl, beq_self_eq_true, Bool.and_self, cond_true, cond_false, eq_self, beq_iff_eq, beq_eq_false_iff_ne, bne_iff_ne, bne_eq_false_iff_eq, ne_eq, decide_eq_true_eq, decide_eq_false_iff_not, ble_true, ble_false, inRange_iff, inRange_false, wrap32, wrap64]
  unfold K.encode
  have key := fun h => K.may_of (i := i) h
  have pk := fun h => K.word_range (i := i) h
  unfold K.word at *
  repeat' (first | refine drop_ok ?_ | intro _ | with_reducible apply And.intro)
  all_goals first | (rename_i h; rw [if_neg (by simp [h])]; done) | skip
  all_goals
    have hm := key (by assumption)
    have hw := pk hm
    obtain ⟨⟨a, b⟩, ⟨c, d⟩, ⟨e, f⟩, ⟨g, j⟩, ⟨k, l⟩, one, two⟩ := hm
    rw [if_pos (by assumption)]
    simp only [Prod.mk.injEq, and_true]
    clear key pk one two
    by_cases h1 : K.form i.op = 1
    · first | contradiction | (simp only [if_pos h1] at hw ⊢; show @Eq Int _ _; omega)
    · first | contradiction | (simp only [if_neg h1] at hw ⊢; show @Eq Int _ _; omega)
  
theorem c_ref02_Encode : SpecOk EB 21 S_ref02_Encode := spec_sig ok_ref02_Encode (n := 60) fun ⟨i, ⟨⟩⟩ h hok => a_ref02_Encode i (ok_instr (okSL_head hok))

/-! ref02_Decode -/

def S_ref02_Decode : Spec := sig [.i .u32] [.instr, .b] (fun (w, _) => K.decode w)
noncomputable def E_ref02_Decode : Env := EB.adds [(42, S_ref02_Form), (43, S_ref01_Sign), (21, S_ref02_Encode)]

theorem ok_ref02_Decode : EnvOk E_ref02_Decode := okEB.adds (l := _) ⟨c_ref02_Form, c_ref01_Sign, c_ref02_Encode, trivial⟩

theorem t_ref02_Decode (w : Int) : evF E_ref02_Decode 60 19 (encArgs [.i .u32] (w, ())) = 
  Tree.letv (okO [(AT.i IntKind.i64)]) (K.form (IntKind.wrap IntKind.i64 (IntKind.wrap IntKind.u32 (Int.tdiv w (67108864 : Int))))) fun x0 =>
  (bif (BEq.beq x0 (1 : Int)) then
    (Tree.letv (okO [(AT.i IntKind.u32), AT.b]) (K.encode (PInstr.mk (IntKind.wrap IntKind.i64 (IntKind.wrap IntKind.u32 (Int.tdiv w (67108864 : Int)))) (IntKind.wrap IntKind.i64 (Int.tmod (IntKind.wrap IntKind.u32 (Int.tdiv w (4194304 : Int))) (16 : Int))) (IntKind.wrap IntKind.i64 (Int.tmod (IntKind.wrap IntKind.u32 (Int.tdiv w (262144 : Int))) (16 : Int))) (IntKind.wrap IntKind.i64 (Int.tmod w (16 : Int))) (0 : Int))) fun x1 =>
    (bif x1.snd then
      (bif (bne x1.fst w) then
        (Tree.leaf (SV.tup [(SV.agg [(SV.v (Value.int IntKind.i64 (0 : Int))), (SV.v (Value.int IntKind.i64 (0 : Int))), (SV.v (Value.int IntKind.i64 (0 : Int))), (SV.v (Value.int IntKind.i64 (0 : Int))), (SV.v (Value.int IntKind.i32 (0 : Int)))]), (SV.b false)]))
      else
        (Tree.leaf (SV.tup [(SV.agg [(SV.v (Value.int IntKind.i64 (IntKind.wrap IntKind.i64 (IntKind.wrap IntKind.u32 (Int.tdiv w (67108864 : Int)))))), (SV.v (Value.int IntKind.i64 (IntKind.wrap IntKind.i64 (Int.tmod (IntKind.wrap IntKind.u32 (Int.tdiv w (4194304 : Int))) (16 : Int))))), (SV.v (Value.int IntKind.i64 (IntKind.wrap IntKind.i64 (Int.tmod (IntKind.wrap IntKind.u32 (Int.tdiv w (262144 : Int))) (16 : Int))))), (SV.v (Value.int IntKind.i64 (IntKind.wrap IntKind.i64 (Int.tmod w (16 : Int))))), (SV.v (Value.int IntKind.i32 (0 : Int)))]), (SV.b true)])))
    else
      (Tree.leaf (SV.tup [(SV.agg [(SV.v (Value.int IntKind.i64 (0 : Int))), (SV.v (Value.int IntKind.i64 (0 : Int))), (SV.v (Value.int IntKind.i64 (0 : Int))), (SV.v (Value.int IntKind.i64 (0 : Int))), (SV.v (Value.int IntKind.i32 (0 : Int)))]), (SV.b false)]))))
  else
    (Tree.letv (okO [(AT.i IntKind.i32)]) (K.sext w) fun x1 =>
    (Tree.letv (okO [(AT.i IntKind.u32), AT.b]) (K.encode (PInstr.mk (IntKind.wrap IntKind.i64 (IntKind.wrap IntKind.u32 (Int.tdiv w (67108864 : Int)))) (IntKind.wrap IntKind.i64 (Int.tmod (IntKind.wrap IntKind.u32 (Int.tdiv w (4194304 : Int))) (16 : Int))) (IntKind.wrap IntKind.i64 (Int.tmod (IntKind.wrap IntKind.u32 (Int.tdiv w (262144 : Int))) (16 : Int))) (0 : Int) x1)) fun x2 =>
    (bif x2.snd then
      (bif (bne x2.fst w) then
        (Tree.leaf (SV.tup [(SV.agg [(SV.v (Value.int IntKind.i64 (0 : Int))), (SV.v (Value.int IntKind.i64 (0 : Int))), (SV.v (Value.int IntKind.i64 (0 : Int))), (SV.v (Value.int IntKind.i64 (0 : Int))), (SV.v (Value.int IntKind.i32 (0 : Int)))]), (SV.b false)]))
      else
        (Tree.leaf (SV.tup [(SV.agg [(SV.v (Value.int IntKind.i64 (IntKind.wrap IntKind.i64 (IntKind.wrap IntKind.u32 (Int.tdiv w (67108864 : Int)))))), (SV.v (Value.int IntKind.i64 (IntKind.wrap IntKind.i64 (Int.tmod (IntKind.wrap IntKind.u32 (Int.tdiv w (4194304 : Int))) (16 : Int))))), (SV.v (Value.int IntKind.i64 (IntKind.wrap IntKind.i64 (Int.tmod (IntKind.wrap IntKind.u32 (Int.tdiv w (262144 : Int))) (16 : Int))))), (SV.v (Value.int IntKind.i64 (0 : Int))), (SV.v (Value.int IntKind.i32 x1))]), (SV.b true)])))
    else
      (Tree.leaf (SV.tup [(SV.agg [(SV.v (Value.int IntKind.i64 (0 : Int))), (SV.v (Value.int IntKind.i64 (0 : Int))), (SV.v (Value.int IntKind.i64 (0 : Int))), (SV.v (Value.int IntKind.i64 (0 : Int))), (SV.v (Value.int IntKind.i32 (0 : Int)))]), (SV.b false)])))))) := by kernel_rfl
theorem a_ref02_Decode (w : Int) (ok_w : okI .u32 w) : (evF E_ref02_Decode 60 19 (encArgs [.i .u32] (w, ()))).ends fun out_ => decO [.instr, .b] out_ = some (K.decode w) := by
  rw [t_ref02_Decode, Tree.ends_holds]
  obtain ⟨w0, w1⟩ := okI_u32 ok_w
  have t1 : IntKind.u32.wrap (Int.tdiv w 67108864) = w / 67108864 := by rw [Int.tdiv_eq_ediv_of_nonneg w0, wrap32]; omega
  have t2 : Int.tmod (IntKind.u32.wrap (Int.tdiv w 4194304)) 16 = w / 4194304 % 16 := by rw [Int.tdiv_eq_ediv_of_nonneg w0, wrap32, Int.tmod_eq_emod_of_nonneg (by omega)]; omega
  have t3 : Int.tmod (IntKind.u32.wrap (Int.tdiv w 262144)) 16 = w / 262144 % 16 := by rw [Int.tdiv_eq_ediv_of_nonneg w0, wrap32, Int.tmod_eq_emod_of_nonneg (by omega)]; omega
  have t4 : Int.tmod w 16 = w % 16 := Int.tmod_eq_emod_of_nonneg w0
  have i1 : IntKind.i64.wrap (w / 67108864) = w / 67108864 := wrapI64 (by omega) (by omega)
  have i2 : IntKind.i64.wrap (w / 4194304 % 16) = w / 4194304 % 16 := wrapI64 (by omega) (by omega)
  have i3 : IntKind.i64.wrap (w / 262144 % 16) = w / 262144 % 16 := wrapI64 (by omega) (by omega)
  have i4 : IntKind.i64.wrap (w % 16) = w % 16 := wrapI64 (by omega) (by omega)
  have g1 : K.form (w / 67108864) = 1 → (⟨w / 67108864, w / 4194304 % 16, w / 262144 % 16, w % 16, 0⟩ : PInstr) = K.splitW w := fun h => by simp [K.splitW, h]
  have g2 : K.form (w / 67108864) ≠ 1 → (⟨w / 67108864, w / 4194304 % 16, w / 262144 % 16, 0, K.sext w⟩ : PInstr) = K.splitW w := fun h => by simp [K.splitW, h]
  have d1 : (K.encode (K.splitW w)).2 = true → (K.encode (K.splitW w)).1 = w → K.decode w = (K.splitW w, true) := fun h1 h2 => by
    unfold K.encode at h1 h2
    by_cases hm : K.may (K.splitW w) = true
    · rw [if_pos hm] at h2; unfold K.decode; rw [if_pos ⟨hm, h2⟩]
    · rw [if_neg hm] at h1; simp at h1
  have d2 : ¬ ((K.encode (K.splitW w)).2 = true ∧ (K.encode (K.splitW w)).1 = w) → K.decode w = (⟨0, 0, 0, 0, 0⟩, false) := fun h => by
    unfold K.encode at h
    unfold K.decode
    rw [if_neg]
    rintro ⟨h1, h2⟩
    rw [if_pos h1] at h; exact h ⟨rfl, h2⟩
  simp only [Tree.holds_loop, Tree.holds_next, if_true, Tree.holds_cond, Tree.holds_letv, Tree.holds_leaf, Tree.holds_fail, decO, decA, decTup, decMach, decCore, decTrap, decInstr, decPart, decGuest, decConf, decEvent, decVcpu, bytesS, boolS, eventsS, intsS, guestsS, vcpusS, rowS, castL, Option.bind_some, Option.map_some, Option.some.injEq, Nat.beq_refl, beq_self_eq_true, Bool.and_self, cond_true, cond_false, eq_self, beq_iff_eq, beq_eq_false_iff_ne, bne_iff_ne, bne_eq_false_iff_eq, ne_eq, decide_eq_true_eq, decide_eq_false_iff_not, ble_true, ble_false, inRange_iff, inRange_false, t1, t2, t3, t4, i1, i2, i3, i4]
  have fin : ∀ i, i = K.splitW w → (okO [AT.i IntKind.u32, AT.b] (K.encode i) → ((K.encode i).2 = true → (¬ (K.encode i).1 = w → ((⟨0, 0, 0, 0, 0⟩ : PInstr), false) = K.decode w) ∧ ((K.encode i).1 = w → (i, true) = K.decode w)) ∧ ((K.encode i).2 = false → ((⟨0, 0, 0, 0, 0⟩ : PInstr), false) = K.decode w)) := fun i hi _ => by
    subst hi
    exact ⟨fun a => ⟨fun b => (d2 fun c => b c.2).symm, fun b => (d1 a b).symm⟩, fun a => (d2 fun c => by rw [a] at c; exact absurd c.1 (by simp)).symm⟩
  clear d1 d2 t1 t2 t3 t4 i1 i2 i3 i4
  intro _
  by_cases hf : K.form (w / 67108864) = 1
  · simp only [hf]; simp; first | simpa using fin _ (g1 hf) | exact fun _ => by simpa using fin _ (g1 hf)
  · simp only [hf]; simp; first | simpa using fin _ (g2 hf) | exact fun _ => by simpa using fin _ (g2 hf)
  
theorem c_ref02_Decode : SpecOk EB 19 S_ref02_Decode := spec_sig ok_ref02_Decode (n := 60) fun ⟨w, ⟨⟩⟩ h hok => a_ref02_Decode w (ok_int (okSL_head hok))

/-! ref02_Privileged -/

def S_ref02_Privileged : Spec := sig [.i .i64] [.b] (fun (op, _) => K.privd op)
noncomputable def E_ref02_Privileged : Env := EB.adds []

theorem ok_ref02_Privileged : EnvOk E_ref02_Privileged := okEB.adds (l := _) trivial

theorem t_ref02_Privileged (op : Int) : evF E_ref02_Privileged 60 20 (encArgs [.i .i64] (op, ())) = 
  bif (BEq.beq op (21 : Int)) then
    (Tree.leaf (SV.b true))
  else
    (bif (BEq.beq op (22 : Int)) then
      (Tree.leaf (SV.b true))
    else
      (bif (BEq.beq op (23 : Int)) then
        (Tree.leaf (SV.b true))
      else
        (bif (BEq.beq op (24 : Int)) then
          (Tree.leaf (SV.b true))
        else
          (bif (BEq.beq op (25 : Int)) then
            (Tree.leaf (SV.b true))
          else
            (Tree.leaf (SV.b false)))))) := by kernel_rfl
theorem a_ref02_Privileged (op : Int) (ok_op : okI .i64 op) : (evF E_ref02_Privileged 60 20 (encArgs [.i .i64] (op, ()))).ends fun out_ => decO [.b] out_ = some (K.privd op) := by
  rw [t_ref02_Privileged, Tree.ends_holds]
  simp only [Tree.holds_loop, Tree.holds_next, if_true, Tree.holds_cond, Tree.holds_letv, Tree.holds_leaf, Tree.holds_fail, decO, decA, decTup, decMach, decCore, decTrap, decInstr, decPart, decGuest, decConf, decEvent, decVcpu, bytesS, boolS, eventsS, intsS, guestsS, vcpusS, rowS, castL, Option.bind_some, Option.map_some, Option.some.injEq, Nat.beq_refl, beq_self_eq_true, Bool.and_self, cond_true, cond_false, eq_self, beq_iff_eq, beq_eq_false_iff_ne, bne_iff_ne, bne_eq_false_iff_eq, ne_eq, decide_eq_true_eq, decide_eq_false_iff_not, ble_true, ble_false, inRange_iff, inRange_false, K.privd]
  repeat' (first | refine drop_ok ?_ | intro _ | with_reducible apply And.intro)
  all_goals first | (subst_vars; rfl) | (have : ¬ (21 ≤ op ∧ op ≤ 25) := by omega
                                         by_cases h : 21 ≤ op <;> simp <;> omega)
  
theorem c_ref02_Privileged : SpecOk EB 20 S_ref02_Privileged := spec_sig ok_ref02_Privileged (n := 60) fun ⟨op, ⟨⟩⟩ h hok => a_ref02_Privileged op (ok_int (okSL_head hok))

/-! ref06_Super -/

def S_ref06_Super : Spec := sig [.core] [.b] (fun (c, _) => K.super c)
noncomputable def E_ref06_Super : Env := EB.adds []

theorem ok_ref06_Super : EnvOk E_ref06_Super := okEB.adds (l := _) trivial

theorem t_ref06_Super (c : PCore) : evF E_ref06_Super 60 27 (encArgs [.core] (c, ())) = 
  bif (BEq.beq (Int.tmod (List.getD c.csr 0 (0 : Int)) (2 : Int)) (1 : Int)) then
    (Tree.leaf (SV.b true))
  else
    (Tree.leaf (SV.b false)) := by kernel_rfl
theorem a_ref06_Super (c : PCore) (ok_c : okCore c) : (evF E_ref06_Super 60 27 (encArgs [.core] (c, ()))).ends fun out_ => decO [.b] out_ = some (K.super c) := by
  rw [t_ref06_Super, Tree.ends_holds]
  obtain ⟨s0, s1⟩ := ok_c.csr.u32 (i := 0) (by omega)
  simp only [Tree.holds_loop, Tree.holds_next, if_true, Tree.holds_cond, Tree.holds_letv, Tree.holds_leaf, Tree.holds_fail, decO, decA, decTup, decMach, decCore, decTrap, decInstr, decPart, decGuest, decConf, decEvent, decVcpu, bytesS, boolS, eventsS, intsS, guestsS, vcpusS, rowS, castL, Option.bind_some, Option.map_some, Option.some.injEq, Nat.beq_refl, beq_self_eq_true, Bool.and_self, cond_true, cond_false, eq_self, beq_iff_eq, beq_eq_false_iff_ne, bne_iff_ne, bne_eq_false_iff_eq, ne_eq, decide_eq_true_eq, decide_eq_false_iff_not, ble_true, ble_false, inRange_iff, inRange_false, K.super, Int.tmod_eq_emod_of_nonneg s0]
  repeat' (first | refine drop_ok ?_ | intro _ | with_reducible apply And.intro)
  all_goals simp_all
  
theorem c_ref06_Super : SpecOk EB 27 S_ref06_Super := spec_sig ok_ref06_Super (n := 60) fun ⟨c, ⟨⟩⟩ h hok => a_ref06_Super c (ok_core (okSL_head hok))

/-! ref19_Can -/

def S_ref19_Can : Spec := sig [.vcpu, .trap] [.b] (fun (v, t, _) => K.can v t)
noncomputable def E_ref19_Can : Env := EB.adds [(19, S_ref02_Decode), (20, S_ref02_Privileged), (27, S_ref06_Super)]

theorem ok_ref19_Can : EnvOk E_ref19_Can := okEB.adds (l := _) ⟨c_ref02_Decode, c_ref02_Privileged, c_ref06_Super, trivial⟩

theorem t_ref19_Can (v : PVcpu) (t : PTrap) : evF E_ref19_Can 60 17 (encArgs [.vcpu, .trap] (v, t, ())) = 
  Tree.letv (okO [AT.instr, AT.b]) (K.decode t.tval) fun x0 =>
  (bif x0.snd then
    (Tree.letv (okO [AT.b]) (K.privd x0.fst.op) fun x1 =>
    (bif x1 then
      (bif (BEq.beq t.cause (2 : Int)) then
        (Tree.letv (okO [AT.b]) (K.super v.core) fun x2 =>
        (bif x2 then
          (Tree.leaf (SV.b true))
        else
          (Tree.leaf (SV.b false))))
      else
        (Tree.leaf (SV.b false)))
    else
      (Tree.leaf (SV.b false))))
  else
    (Tree.leaf (SV.b false))) := by kernel_rfl
theorem a_ref19_Can (v : PVcpu) (t : PTrap) (ok_v : okVcpu v) (ok_t : okTrap t) : (evF E_ref19_Can 60 17 (encArgs [.vcpu, .trap] (v, t, ()))).ends fun out_ => decO [.b] out_ = some (K.can v t) := by
  rw [t_ref19_Can, Tree.ends_holds]
  simp only [Tree.holds_loop, Tree.holds_next, if_true, Tree.holds_cond, Tree.holds_letv, Tree.holds_leaf, Tree.holds_fail, decO, decA, decTup, decMach, decCore, decTrap, decInstr, decPart, decGuest, decConf, decEvent, decVcpu, bytesS, boolS, eventsS, intsS, guestsS, vcpusS, rowS, castL, Option.bind_some, Option.map_some, Option.some.injEq, Nat.beq_refl, beq_self_eq_true, Bool.and_self, cond_true, cond_false, eq_self, beq_iff_eq, beq_eq_false_iff_ne, bne_iff_ne, bne_eq_false_iff_eq, ne_eq, decide_eq_true_eq, decide_eq_false_iff_not, ble_true, ble_false, inRange_iff, inRange_false, K.can, K.isPriv]
  repeat' (first | refine drop_ok ?_ | intro _ | with_reducible apply And.intro)
  all_goals simp_all
  
theorem c_ref19_Can : SpecOk EB 17 S_ref19_Can := spec_sig ok_ref19_Can (n := 60) fun ⟨v, t, ⟨⟩⟩ h hok => a_ref19_Can v t (ok_vcpu (okSL_head hok)) (ok_trap (okSL_head (okSL_tail hok)))

/-! ref07_Get -/

def S_ref07_Get : Spec := sig [.a .u32 16, .i .i64] [.i .u32] (fun (r, i, _) => K.get r i)
noncomputable def E_ref07_Get : Env := EB.adds []

theorem ok_ref07_Get : EnvOk E_ref07_Get := okEB.adds (l := _) trivial

theorem t_ref07_Get (r : List Int) (i : Int) : evF E_ref07_Get 60 61 (encArgs [.a .u32 16, .i .i64] (r, i, ())) = 
  bif (BEq.beq (1 : Int) i) then
    (Tree.leaf (SV.v (Value.int IntKind.u32 (List.getD r 1 (0 : Int)))))
  else
    (bif (BEq.beq (2 : Int) i) then
      (Tree.leaf (SV.v (Value.int IntKind.u32 (List.getD r 2 (0 : Int)))))
    else
      (bif (BEq.beq (3 : Int) i) then
        (Tree.leaf (SV.v (Value.int IntKind.u32 (List.getD r 3 (0 : Int)))))
      else
        (bif (BEq.beq (4 : Int) i) then
          (Tree.leaf (SV.v (Value.int IntKind.u32 (List.getD r 4 (0 : Int)))))
        else
          (bif (BEq.beq (5 : Int) i) then
            (Tree.leaf (SV.v (Value.int IntKind.u32 (List.getD r 5 (0 : Int)))))
          else
            (bif (BEq.beq (6 : Int) i) then
              (Tree.leaf (SV.v (Value.int IntKind.u32 (List.getD r 6 (0 : Int)))))
            else
              (bif (BEq.beq (7 : Int) i) then
                (Tree.leaf (SV.v (Value.int IntKind.u32 (List.getD r 7 (0 : Int)))))
              else
                (bif (BEq.beq (8 : Int) i) then
                  (Tree.leaf (SV.v (Value.int IntKind.u32 (List.getD r 8 (0 : Int)))))
                else
                  (bif (BEq.beq (9 : Int) i) then
                    (Tree.leaf (SV.v (Value.int IntKind.u32 (List.getD r 9 (0 : Int)))))
                  else
                    (bif (BEq.beq (10 : Int) i) then
                      (Tree.leaf (SV.v (Value.int IntKind.u32 (List.getD r 10 (0 : Int)))))
                    else
                      (bif (BEq.beq (11 : Int) i) then
                        (Tree.leaf (SV.v (Value.int IntKind.u32 (List.getD r 11 (0 : Int)))))
                      else
                        (bif (BEq.beq (12 : Int) i) then
                          (Tree.leaf (SV.v (Value.int IntKind.u32 (List.getD r 12 (0 : Int)))))
                        else
                          (bif (BEq.beq (13 : Int) i) then
                            (Tree.leaf (SV.v (Value.int IntKind.u32 (List.getD r 13 (0 : Int)))))
                          else
                            (bif (BEq.beq (14 : Int) i) then
                              (Tree.leaf (SV.v (Value.int IntKind.u32 (List.getD r 14 (0 : Int)))))
                            else
                              (bif (BEq.beq (15 : Int) i) then
                                (Tree.leaf (SV.v (Value.int IntKind.u32 (List.getD r 15 (0 : Int)))))
                              else
                                (Tree.leaf (SV.v (Value.int IntKind.u32 (0 : Int)))))))))))))))))) := by kernel_rfl
theorem a_ref07_Get (r : List Int) (i : Int) (ok_r : okL .u32 16 r) (ok_i : okI .i64 i) : (evF E_ref07_Get 60 61 (encArgs [.a .u32 16, .i .i64] (r, i, ()))).ends fun out_ => decO [.i .u32] out_ = some (K.get r i) := by
  rw [t_ref07_Get, Tree.ends_holds]
  simp only [Tree.holds_loop, Tree.holds_next, if_true, Tree.holds_cond, Tree.holds_letv, Tree.holds_leaf, Tree.holds_fail, decO, decA, decTup, decMach, decCore, decTrap, decInstr, decPart, decGuest, decConf, decEvent, decVcpu, bytesS, boolS, eventsS, intsS, guestsS, vcpusS, rowS, castL, Option.bind_some, Option.map_some, Option.some.injEq, Nat.beq_refl, beq_self_eq_true, Bool.and_self, cond_true, cond_false, eq_self, K.get]
  by_cases h : 0 < i ∧ i < 16
  · rw [if_pos h]
    have : i = 1 ∨ i = 2 ∨ i = 3 ∨ i = 4 ∨ i = 5 ∨ i = 6 ∨ i = 7 ∨ i = 8 ∨ i = 9 ∨ i = 10 ∨ i = 11 ∨ i = 12 ∨ i = 13 ∨ i = 14 ∨ i = 15 := by omega
    rcases this with rfl | rfl | rfl | rfl | rfl | rfl | rfl | rfl | rfl | rfl | rfl | rfl | rfl | rfl | rfl <;> simp
  · rw [if_neg h]
    have n : ∀ k : Int, 0 < k → k < 16 → (k == i) = false := fun k h0 h1 => by
      have : ¬ k = i := by omega
      simpa using this
    simp [n]
  
theorem c_ref07_Get : SpecOk EB 61 S_ref07_Get := spec_sig ok_ref07_Get (n := 60) fun ⟨r, i, ⟨⟩⟩ h hok => a_ref07_Get r i (ok_arr (okSL_head hok)) (ok_int (okSL_head (okSL_tail hok)))

/-! ref07_Put -/
def K.putN (r : List Int) (i v : Int) (j : Nat) : List Int := (K.put r i v).take j ++ List.replicate (16 - j) 0
theorem K.putN_step {r : List Int} {i v : Int} (hr : r.length = 16) {j : Nat} (hj : j < 16) {z : Int} (hz : z = (K.put r i v).getD j 0) : (K.putN r i v j).set j z = K.putN r i v (j + 1) := by
  have hl : (K.put r i v).length = 16 := by unfold K.put; split <;> simp [hr]
  unfold K.putN
  rw [List.set_append_right _ _ (by simp; omega), List.take_succ_eq_append_getElem (by omega), List.append_assoc]
  congr 1
  rw [show j - (List.take j (K.put r i v)).length = 0 by simp; omega, show 16 - j = (16 - (j + 1)) + 1 by omega, List.replicate_succ]
  simp [hz, hl, hj]
@[reducible] def L_ref07_Put (r : List Int) (i v : Int) : LoopSpec where
  σ := Nat
  slots := [1, 2, 3, 6, 7, 8]
  keys := [3, 6, 7]
  vals := fun j => [.v (.int .i64 i), .v (.int .u32 v), .loc 0 0 0 1, .loc 1 0 0 1, .loc 2 0 0 1, .v (.int .i64 (j : Int))]
  blks := fun j => [.cells [.arr .u32 16 r] 23, .cells [.arr .u32 16 [0, 0, 0, 0, 0, 0, 0, 0, 0, 0, 0, 0, 0, 0, 0, 0]] 23, .cells [.arr .u32 16 (K.putN r i v j)] 23]
  inv := fun j => j ≤ 16
  mu := fun j => 16 - j
def S_ref07_Put : Spec := sig [.a .u32 16, .i .i64, .i .u32] [.a .u32 16] (fun (r, i, v, _) => K.put r i v)
noncomputable def E_ref07_Put : Env := EB.adds []

theorem ok_ref07_Put : EnvOk E_ref07_Put := okEB.adds (l := _) trivial

theorem t_ref07_Put (r : List Int) (i : Int) (v : Int) : evFL E_ref07_Put (fun _ => some (L_ref07_Put r i v)) 60 63 (encArgs [.a .u32 16, .i .i64, .i .u32] (r, i, v, ())) = 
  Tree.loop 0 (L_ref07_Put r i v) [(SV.v (Value.int IntKind.i64 i)), (SV.v (Value.int IntKind.u32 v)), (SV.loc 0 0 0 1), (SV.loc 1 0 0 1), (SV.loc 2 0 0 1), (SV.v (Value.int IntKind.i64 (0 : Int)))] [(Blk.cells [(SV.arr IntKind.u32 16 r)] 23), (Blk.cells [(SV.arr IntKind.u32 16 [(0 : Int), (0 : Int), (0 : Int), (0 : Int), (0 : Int), (0 : Int), (0 : Int), (0 : Int), (0 : Int), (0 : Int), (0 : Int), (0 : Int), (0 : Int), (0 : Int), (0 : Int), (0 : Int)])] 23), (Blk.cells [(SV.arr IntKind.u32 16 [(0 : Int), (0 : Int), (0 : Int), (0 : Int), (0 : Int), (0 : Int), (0 : Int), (0 : Int), (0 : Int), (0 : Int), (0 : Int), (0 : Int), (0 : Int), (0 : Int), (0 : Int), (0 : Int)])] 23)] fun (x0 : Nat) =>
  (bif (decide ((Int.ofNat x0) < (16 : Int))) then
    (bif (inRange (Int.ofNat x0) 16) then
      (bif (inRange (Int.ofNat x0) 16) then
        (bif (BEq.beq (Int.ofNat x0) i) then
          (bif (bne (Int.ofNat x0) (0 : Int)) then
            (bif (inRange (Int.ofNat x0) 16) then
              ((Tree.next 0 [(SV.v (Value.int IntKind.i64 i)), (SV.v (Value.int IntKind.u32 v)), (SV.loc 0 0 0 1), (SV.loc 1 0 0 1), (SV.loc 2 0 0 1), (SV.v (Value.int IntKind.i64 (IntKind.wrap IntKind.i64 ((Int.ofNat x0) + (1 : Int)))))] [(Blk.cells [(SV.arr IntKind.u32 16 r)] 23), (Blk.cells [(SV.arr IntKind.u32 16 [(0 : Int), (0 : Int), (0 : Int), (0 : Int), (0 : Int), (0 : Int), (0 : Int), (0 : Int), (0 : Int), (0 : Int), (0 : Int), (0 : Int), (0 : Int), (0 : Int), (0 : Int), (0 : Int)])] 23), (Blk.cells [(SV.arr IntKind.u32 16 (List.set (List.set (K.putN r i v x0) ((Int.toNat (Int.ofNat x0))) (List.getD r ((Int.toNat (Int.ofNat x0))) (0 : Int))) ((Int.toNat (Int.ofNat x0))) v))] 23)]))
            else
              (Tree.fail))
          else
            ((Tree.next 0 [(SV.v (Value.int IntKind.i64 i)), (SV.v (Value.int IntKind.u32 v)), (SV.loc 0 0 0 1), (SV.loc 1 0 0 1), (SV.loc 2 0 0 1), (SV.v (Value.int IntKind.i64 (IntKind.wrap IntKind.i64 ((Int.ofNat x0) + (1 : Int)))))] [(Blk.cells [(SV.arr IntKind.u32 16 r)] 23), (Blk.cells [(SV.arr IntKind.u32 16 [(0 : Int), (0 : Int), (0 : Int), (0 : Int), (0 : Int), (0 : Int), (0 : Int), (0 : Int), (0 : Int), (0 : Int), (0 : Int), (0 : Int), (0 : Int), (0 : Int), (0 : Int), (0 : Int)])] 23), (Blk.cells [(SV.arr IntKind.u32 16 (List.set (K.putN r i v x0) ((Int.toNat (Int.ofNat x0))) (List.getD r ((Int.toNat (Int.ofNat x0))) (0 : Int))))] 23)])))
        else
          ((Tree.next 0 [(SV.v (Value.int IntKind.i64 i)), (SV.v (Value.int IntKind.u32 v)), (SV.loc 0 0 0 1), (SV.loc 1 0 0 1), (SV.loc 2 0 0 1), (SV.v (Value.int IntKind.i64 (IntKind.wrap IntKind.i64 ((Int.ofNat x0) + (1 : Int)))))] [(Blk.cells [(SV.arr IntKind.u32 16 r)] 23), (Blk.cells [(SV.arr IntKind.u32 16 [(0 : Int), (0 : Int), (0 : Int), (0 : Int), (0 : Int), (0 : Int), (0 : Int), (0 : Int), (0 : Int), (0 : Int), (0 : Int), (0 : Int), (0 : Int), (0 : Int), (0 : Int), (0 : Int)])] 23), (Blk.cells [(SV.arr IntKind.u32 16 (List.set (K.putN r i v x0) ((Int.toNat (Int.ofNat x0))) (List.getD r ((Int.toNat (Int.ofNat x0))) (0 : Int))))] 23)])))
      else
        (Tree.fail))
    else
      (Tree.fail))
  else
    (Tree.leaf (SV.agg [(SV.arr IntKind.u32 16 (K.putN r i v x0))]))) := by kernel_rfl
theorem a_ref07_Put (r : List Int) (i : Int) (v : Int) (ok_r : okL .u32 16 r) (ok_i : okI .i64 i) (ok_v : okI .u32 v) : (evFL E_ref07_Put (fun _ => some (L_ref07_Put r i v)) 60 63 (encArgs [.a .u32 16, .i .i64, .i .u32] (r, i, v, ()))).ends fun out_ => decO [.a .u32 16] out_ = some (K.put r i v) := by
  rw [t_ref07_Put, Tree.ends_holds]
  have hr := ok_r.1
  simp only [Tree.holds_loop]
  refine ⟨⟨(0 : Nat), rfl, rfl, Nat.zero_le _, trivial⟩, fun (j : Nat) (hj : j ≤ 16) => ?_⟩
  simp only [Tree.holds_loop, Tree.holds_next, if_true, Tree.holds_cond, Tree.holds_letv, Tree.holds_leaf, Tree.holds_fail, decO, decA, decTup, decMach, decCore, decTrap, decInstr, decPart, decGuest, decConf, decEvent, decVcpu, bytesS, boolS, eventsS, intsS, guestsS, vcpusS, rowS, castL, Option.bind_some, Option.map_some, Option.some.injEq, Nat.beq_refl, beq_self_eq_true, Bool.and_self, cond_true, cond_false, eq_self]
  refine ⟨fun h => ?_, fun h => ?_⟩
  · have hlt : j < 16 := by simp at h; omega
    have r1 : inRange (j : Int) 16 = true := inRange_iff.2 ⟨by omega, by omega⟩
    have e2 : IntKind.i64.wrap ((j : Int) + 1) = ((j + 1 : Nat) : Int) := by rw [wrapI64 (by omega) (by omega)]; rfl
    simp only [Int.ofNat_eq_natCast, Int.toNat_natCast, r1, true_implies, Bool.true_eq_false, false_implies, and_true, e2]
    have s1 : (j : Int) = i → j ≠ 0 → ((K.putN r i v j).set j (r.getD j 0)).set j v = K.putN r i v (j + 1) := fun q1 q2 => by
      rw [List.set_set, K.putN_step hr hlt]
      unfold K.put; rw [if_pos (by omega)]; subst q1; simp [hr, hlt]
    have s2 : ((j : Int) ≠ i ∨ j = 0) → (K.putN r i v j).set j (r.getD j 0) = K.putN r i v (j + 1) := fun q => by
      rw [K.putN_step hr hlt]
      unfold K.put; split
      · rw [List.getD_eq_getElem?_getD, List.getD_eq_getElem?_getD, List.getElem?_set_ne (by omega)]
      · rfl
    have fin : ∀ x, x = K.putN r i v (j + 1) → (L_ref07_Put r i v).at (fun y => (L_ref07_Put r i v).mu y < (L_ref07_Put r i v).mu j) [.v (.int .i64 i), .v (.int .u32 v), .loc 0 0 0 1, .loc 1 0 0 1, .loc 2 0 0 1, .v (.int .i64 ((j + 1 : Nat) : Int))] [.cells [.arr .u32 16 r] 23, .cells [.arr .u32 16 [0, 0, 0, 0, 0, 0, 0, 0, 0, 0, 0, 0, 0, 0, 0, 0]] 23, .cells [.arr .u32 16 x] 23] := fun x hx =>
      ⟨j + 1, rfl, by rw [hx], by show j + 1 ≤ 16; omega, by show 16 - (j + 1) < 16 - j; omega⟩
    refine ⟨fun q1 => ⟨fun q2 => ?_, fun q2 => ?_⟩, fun q1 => ?_⟩
    · exact fin _ (s1 (by simpa using q1) (by simpa using q2))
    · exact fin _ (s2 (.inr (by simpa using q2)))
    · exact fin _ (s2 (.inl (by simpa using q1)))
  · have : j = 16 := by simp at h; omega
    subst this
    have hl : (K.put r i v).length = 16 := by unfold K.put; split <;> simp [hr]
    show _ = K.put r i v
    unfold K.putN
    rw [List.take_of_length_le (by omega)]; simp
  
theorem c_ref07_Put : SpecOk EB 63 S_ref07_Put := spec_sigL ok_ref07_Put (n := 60) (fun (r, i, v, _) => fun _ => some (L_ref07_Put r i v)) fun ⟨r, i, v, ⟨⟩⟩ h hok => a_ref07_Put r i v (ok_arr (okSL_head hok)) (ok_int (okSL_head (okSL_tail hok))) (ok_int (okSL_head (okSL_tail (okSL_tail hok))))

/-! ref01_Put -/
def K.putTo (w at_ n v : Int) (j : Nat) : Int := ((K.bput w at_ n v).toNat % 2 ^ j : Nat)
@[reducible] def L_ref01_Put (w at_ n v : Int) : LoopSpec where
  σ := Nat
  slots := [0, 1, 2, 3, 9, 10]
  keys := []
  vals := fun j => [.v (.int .u32 w), .v (.int .i64 at_), .v (.int .i64 n), .v (.int .u32 v), .v (.int .u64 (K.putTo w at_ n v j)), .v (.int .i64 (j : Int))]
  blks := fun _ => []
  inv := fun j => j ≤ 32
  mu := fun j => 32 - j
def S_ref01_Put : Spec := sig [.i .u32, .i .i64, .i .i64, .i .u32] [.i .u32] (fun (w, at_, n, v, _) => K.bput w at_ n v) (pre := fun (w, at_, n, v, _) => decide (0 ≤ at_ ∧ 0 ≤ n ∧ at_ + n ≤ 32))
noncomputable def E_ref01_Put : Env := EB.adds [(68, S_ref01_Pow), (67, S_ref01_Field)]

theorem ok_ref01_Put : EnvOk E_ref01_Put := okEB.adds (l := _) ⟨c_ref01_Pow, c_ref01_Field, trivial⟩

theorem t_ref01_Put (w : Int) (at_ : Int) (n : Int) (v : Int) : evFL E_ref01_Put (fun _ => some (L_ref01_Put w at_ n v)) 60 92 (encArgs [.i .u32, .i .i64, .i .i64, .i .u32] (w, at_, n, v, ())) = 
  Tree.loop 0 (L_ref01_Put w at_ n v) [(SV.v (Value.int IntKind.u32 w)), (SV.v (Value.int IntKind.i64 at_)), (SV.v (Value.int IntKind.i64 n)), (SV.v (Value.int IntKind.u32 v)), (SV.v (Value.int IntKind.u64 (0 : Int))), (SV.v (Value.int IntKind.i64 (0 : Int)))] [] fun (x0 : Nat) =>
  (bif (decide ((Int.ofNat x0) < (32 : Int))) then
    (bif (decide (And ((Int.ofNat x0) ≤ (63 : Int)) ((1 : Int) ≤ (63 : Int)))) then
      (Tree.letv (okO [(AT.i IntKind.u32)]) (K.field w (Int.ofNat x0) (1 : Int)) fun x1 =>
      (bif (decide ((Int.ofNat x0) ≥ at_)) then
        (bif (decide ((Int.ofNat x0) < (IntKind.wrap IntKind.i64 (at_ + n)))) then
          (bif (decide (And ((IntKind.wrap IntKind.i64 ((Int.ofNat x0) - at_)) ≤ (63 : Int)) ((1 : Int) ≤ (63 : Int)))) then
            (Tree.letv (okO [(AT.i IntKind.u32)]) (K.field v (IntKind.wrap IntKind.i64 ((Int.ofNat x0) - at_)) (1 : Int)) fun x2 =>
            (bif (decide ((Int.ofNat x0) ≤ (63 : Int))) then
              (Tree.letv (okO [(AT.i IntKind.u64)]) (K.pow (Int.ofNat x0)) fun x3 =>
              ((Tree.next 0 [(SV.v (Value.int IntKind.u32 w)), (SV.v (Value.int IntKind.i64 at_)), (SV.v (Value.int IntKind.i64 n)), (SV.v (Value.int IntKind.u32 v)), (SV.v (Value.int IntKind.u64 (IntKind.wrap IntKind.u64 ((K.putTo w at_ n v x0) + (IntKind.wrap IntKind.u64 ((IntKind.wrap IntKind.u64 x2) * x3)))))), (SV.v (Value.int IntKind.i64 (IntKind.wrap IntKind.i64 ((Int.ofNat x0) + (1 : Int)))))] [])))
            else
              (Tree.fail)))
          else
            (Tree.fail))
        else
          (bif (decide ((Int.ofNat x0) ≤ (63 : Int))) then
            (Tree.letv (okO [(AT.i IntKind.u64)]) (K.pow (Int.ofNat x0)) fun x2 =>
            ((Tree.next 0 [(SV.v (Value.int IntKind.u32 w)), (SV.v (Value.int IntKind.i64 at_)), (SV.v (Value.int IntKind.i64 n)), (SV.v (Value.int IntKind.u32 v)), (SV.v (Value.int IntKind.u64 (IntKind.wrap IntKind.u64 ((K.putTo w at_ n v x0) + (IntKind.wrap IntKind.u64 ((IntKind.wrap IntKind.u64 x1) * x2)))))), (SV.v (Value.int IntKind.i64 (IntKind.wrap IntKind.i64 ((Int.ofNat x0) + (1 : Int)))))] [])))
          else
            (Tree.fail)))
      else
        (bif (decide ((Int.ofNat x0) ≤ (63 : Int))) then
          (Tree.letv (okO [(AT.i IntKind.u64)]) (K.pow (Int.ofNat x0)) fun x2 =>
          ((Tree.next 0 [(SV.v (Value.int IntKind.u32 w)), (SV.v (Value.int IntKind.i64 at_)), (SV.v (Value.int IntKind.i64 n)), (SV.v (Value.int IntKind.u32 v)), (SV.v (Value.int IntKind.u64 (IntKind.wrap IntKind.u64 ((K.putTo w at_ n v x0) + (IntKind.wrap IntKind.u64 ((IntKind.wrap IntKind.u64 x1) * x2)))))), (SV.v (Value.int IntKind.i64 (IntKind.wrap IntKind.i64 ((Int.ofNat x0) + (1 : Int)))))] [])))
        else
          (Tree.fail))))
    else
      (Tree.fail))
  else
    (Tree.leaf (SV.v (Value.int IntKind.u32 (IntKind.wrap IntKind.u32 (K.putTo w at_ n v x0)))))) := by kernel_rfl
theorem a_ref01_Put (w : Int) (at_ : Int) (n : Int) (v : Int) (hpre : 0 ≤ at_ ∧ 0 ≤ n ∧ at_ + n ≤ 32) (ok_w : okI .u32 w) (ok_at_ : okI .i64 at_) (ok_n : okI .i64 n) (ok_v : okI .u32 v) : (evFL E_ref01_Put (fun _ => some (L_ref01_Put w at_ n v)) 60 92 (encArgs [.i .u32, .i .i64, .i .i64, .i .u32] (w, at_, n, v, ()))).ends fun out_ => decO [.i .u32] out_ = some (K.bput w at_ n v) := by
  rw [t_ref01_Put, Tree.ends_holds]
  obtain ⟨w0, w1⟩ := okI_u32 ok_w
  obtain ⟨v0, v1⟩ := okI_u32 ok_v
  obtain ⟨w, rfl⟩ := Int.eq_ofNat_of_zero_le w0
  obtain ⟨v, rfl⟩ := Int.eq_ofNat_of_zero_le v0
  obtain ⟨a, rfl⟩ := Int.eq_ofNat_of_zero_le hpre.1
  obtain ⟨n, rfl⟩ := Int.eq_ofNat_of_zero_le hpre.2.1
  have hT := bput_lt (w := w) (a := a) (n := n) (v := v) (by omega) (by omega)
  have hbit := fun j => bput_bit (w := w) (a := a) (n := n) (v := v) (j := j)
  have hK : (K.bput (w : Int) (a : Int) (n : Int) (v : Int)).toNat = 2 ^ a * (2 ^ n * (w / 2 ^ (a + n)) + v % 2 ^ n) + w % 2 ^ a := by unfold K.bput; rw [Int.toNat_natCast]; simp only [Int.toNat_natCast]
  simp only [Tree.holds_loop]
  refine ⟨⟨(0 : Nat), by simp [K.putTo, Nat.mod_one], rfl, Nat.zero_le _, trivial⟩, fun (j : Nat) (hj : j ≤ 32) => ?_⟩
  generalize 2 ^ a * (2 ^ n * (w / 2 ^ (a + n)) + v % 2 ^ n) + w % 2 ^ a = T at hT hbit hK
  simp only [Tree.holds_loop, Tree.holds_next, if_true, Tree.holds_cond, Tree.holds_letv, Tree.holds_leaf, Tree.holds_fail]
  have c63 : decide (Int.ofNat j ≤ 63 ∧ (1 : Int) ≤ 63) = true := by simp; omega
  have f1 : ∀ x i : Nat, x < 4294967296 → i < 32 → IntKind.u64.wrap (K.field (x : Int) (i : Int) 1) * K.pow (j : Int) = (((x.testBit i).toNat * 2 ^ j : Nat) : Int) := fun x i hx hi => by
    have : K.field (x : Int) (i : Int) 1 = ((x.testBit i).toNat : Int) := by
      unfold K.field K.pow
      rw [← div_bit_aux]
      simp
    rw [this, wrap64]
    have := Bool.toNat_le (x.testBit i)
    unfold K.pow
    rw [Int.natCast_mul, Int.emod_eq_of_lt (by omega) (by omega)]; simp
  refine ⟨fun h => ?_, fun h => ?_⟩
  · have hlt : j < 32 := by simp at h; omega
    have h2 := pow_le32 (i := j) (by omega)
    have e2 : IntKind.i64.wrap ((j : Int) + 1) = ((j + 1 : Nat) : Int) := by rw [wrapI64 (by omega) (by omega)]; rfl
    have e3 : IntKind.i64.wrap ((a : Int) + (n : Int)) = ((a + n : Nat) : Int) := by rw [wrapI64 (by omega) (by omega)]; rfl
    have key : ∀ x i : Nat, x < 4294967296 → i < 32 → x.testBit i = T.testBit j → IntKind.u64.wrap (K.putTo w a n v j + IntKind.u64.wrap (IntKind.u64.wrap (K.field (x : Int) (i : Int) 1) * K.pow (j : Int))) = K.putTo w a n v (j + 1) := fun x i hx hi hb => by
      rw [f1 x i hx hi, hb]
      unfold K.putTo
      rw [hK, wrap64, wrap64, bit_more_aux]
      have h3 : T % 2 ^ j < 2 ^ j := Nat.mod_lt _ (Nat.two_pow_pos j)
      have h4 := Bool.toNat_le (T.testBit j)
      have h5 : (T.testBit j).toNat * 2 ^ j ≤ 2 ^ j := by
        rcases Nat.le_one_iff_eq_zero_or_eq_one.1 h4 with e | e <;> rw [e] <;> omega
      rw [Nat.mul_comm (2 ^ j)]
      generalize (T.testBit j).toNat * 2 ^ j = z at *
      generalize T % 2 ^ j = y at *
      omega
    have nx : ∀ z : Int, z = K.putTo w a n v (j + 1) → (L_ref01_Put w a n v).at (fun y => (L_ref01_Put w a n v).mu y < (L_ref01_Put w a n v).mu j) [SV.v (.int .u32 (w : Int)), .v (.int .i64 (a : Int)), .v (.int .i64 (n : Int)), .v (.int .u32 (v : Int)), .v (.int .u64 z), .v (.int .i64 (IntKind.i64.wrap ((j : Int) + 1)))] [] := fun z hz => by
      refine ⟨j + 1, ?_, rfl, ?_, ?_⟩
      · rw [hz, e2]
      · show j + 1 ≤ 32; omega
      · show 32 - (j + 1) < 32 - j; omega
    have hw := key w j (by omega) hlt
    have hb := hbit j
    simp only [Int.ofNat_eq_natCast] at *
    have no : ∀ {q : Prop} [Decidable q], q → ¬ decide q = false := fun h e => by simp [h] at e
    simp only [e3]
    refine ⟨fun _ _ => ⟨fun g1 => ⟨fun g2 => ?_, fun g2 => ?_⟩, fun g1 => ?_⟩, fun q => no (by omega) q⟩
    · have g1 : a ≤ j := by simpa using g1
      have g2 : j < a + n := by simp at g2; omega
      have e4 : IntKind.i64.wrap ((j : Int) - (a : Int)) = ((j - a : Nat) : Int) := by rw [wrapI64 (by omega) (by omega)]; omega
      rw [if_pos ⟨g1, g2⟩] at hb
      simp only [Int.ofNat_eq_natCast, e4]
      exact ⟨fun _ _ => ⟨fun _ _ => nx _ (key v (j - a) (by omega) (by omega) hb.symm), fun q => no (by omega) q⟩, fun q => no (by omega) q⟩
    · have g2 : ¬ j < a + n := by simp at g2; omega
      rw [if_neg (by omega)] at hb
      exact ⟨fun _ _ => nx _ (hw hb.symm), fun q => no (by omega) q⟩
    · have g1 : ¬ a ≤ j := by simpa using g1
      rw [if_neg (by omega)] at hb
      exact ⟨fun _ _ => nx _ (hw hb.symm), fun q => no (by omega) q⟩
  · have : j = 32 := by simp at h; omega
    subst this
    have e : K.putTo (w : Int) (a : Int) (n : Int) (v : Int) 32 = K.bput (w : Int) (a : Int) (n : Int) (v : Int) := by
      unfold K.putTo
      rw [hK, Nat.mod_eq_of_lt (show T < 2 ^ 32 by omega), ← hK, Int.toNat_of_nonneg (by unfold K.bput; omega)]
    have e2 : K.bput (w : Int) (a : Int) (n : Int) (v : Int) < 4294967296 := by
      have : 0 ≤ K.bput (w : Int) (a : Int) (n : Int) (v : Int) := by unfold K.bput; omega
      omega
    have e3 : 0 ≤ K.bput (w : Int) (a : Int) (n : Int) (v : Int) := by unfold K.bput; omega
    rw [e, wrap32, Int.emod_eq_of_lt e3 e2]
    rfl
  
theorem c_ref01_Put : SpecOk EB 92 S_ref01_Put := spec_sigL ok_ref01_Put (n := 60) (fun (w, at_, n, v, _) => fun _ => some (L_ref01_Put w at_ n v)) fun ⟨w, at_, n, v, ⟨⟩⟩ h hok => a_ref01_Put w at_ n v (of_decide_eq_true h) (ok_int (okSL_head hok)) (ok_int (okSL_head (okSL_tail hok))) (ok_int (okSL_head (okSL_tail (okSL_tail hok)))) (ok_int (okSL_head (okSL_tail (okSL_tail (okSL_tail hok)))))

/-! ref09_Return -/

def S_ref09_Return : Spec := sig [.core] [.core] (fun (c, _) => K.ret c)
noncomputable def E_ref09_Return : Env := EB.adds [(92, S_ref01_Put), (67, S_ref01_Field)]

theorem ok_ref09_Return : EnvOk E_ref09_Return := okEB.adds (l := _) ⟨c_ref01_Put, c_ref01_Field, trivial⟩

theorem t_ref09_Return (c : PCore) : evF E_ref09_Return 60 62 (encArgs [.core] (c, ())) = 
  Tree.letv (okO [(AT.i IntKind.u32)]) (K.field (List.getD c.csr 0 (0 : Int)) (2 : Int) (1 : Int)) fun x0 =>
  (Tree.letv (okO [(AT.i IntKind.u32)]) (K.bput (List.getD c.csr 0 (0 : Int)) (0 : Int) (1 : Int) x0) fun x1 =>
  (Tree.letv (okO [(AT.i IntKind.u32)]) (K.field x1 (3 : Int) (1 : Int)) fun x2 =>
  (Tree.letv (okO [(AT.i IntKind.u32)]) (K.bput x1 (1 : Int) (1 : Int) x2) fun x3 =>
  (Tree.leaf (SV.agg [(SV.arr IntKind.u32 16 c.regs), (SV.v (Value.int IntKind.u32 (List.getD (List.set c.csr 0 x3) 1 (0 : Int)))), (SV.arr IntKind.u32 12 (List.set c.csr 0 x3))]))))) := by kernel_rfl
theorem a_ref09_Return (c : PCore) (ok_c : okCore c) : (evF E_ref09_Return 60 62 (encArgs [.core] (c, ()))).ends fun out_ => decO [.core] out_ = some (K.ret c) := by
  rw [t_ref09_Return, Tree.ends_holds]
  obtain ⟨s0, s1⟩ := ok_c.csr.u32 (i := 0) (by omega)
  simp only [Tree.holds_loop, Tree.holds_next, if_true, Tree.holds_cond, Tree.holds_letv, Tree.holds_leaf, Tree.holds_fail, decO, decA, decTup, decMach, decCore, decTrap, decInstr, decPart, decGuest, decConf, decEvent, decVcpu, bytesS, boolS, eventsS, intsS, guestsS, vcpusS, rowS, castL, Option.bind_some, Option.map_some, Option.some.injEq, Nat.beq_refl, beq_self_eq_true, Bool.and_self, cond_true, cond_false, eq_self, K.ret, K.retS]
  generalize c.csr.getD 0 0 = s at *
  have p : ∀ x at_ v : Int, K.bput x at_ 1 v = ((2 ^ at_.toNat * (2 * (x.toNat / 2 ^ (at_.toNat + 1)) + v.toNat % 2) + x.toNat % 2 ^ at_.toNat : Nat) : Int) := fun _ _ _ => rfl
  have p0 : ∀ x v : Int, K.bput x 0 1 v = ((2 * (x.toNat / 2) + v.toNat % 2 : Nat) : Int) := fun x v => by rw [p]; simp [Nat.mod_one]
  have p1 : ∀ x v : Int, K.bput x 1 1 v = ((2 * (2 * (x.toNat / 4) + v.toNat % 2) + x.toNat % 2 : Nat) : Int) := fun x v => by rw [p]; simp
  have f2 : K.field s 2 1 = s / 4 % 2 := by simp [K.field, K.pow]
  have f3 : ∀ x : Int, K.field x 3 1 = x / 8 % 2 := fun x => by simp [K.field, K.pow]
  simp only [f2, f3, p0, p1]
  have hg : ∀ z, (c.csr.set 0 z).getD 1 0 = c.csr.getD 1 0 := fun z => by simp [List.getD_eq_getElem?_getD]
  rw [hg]
  refine fun _ _ _ _ => ?_
  congr 2
  omega
  
theorem c_ref09_Return : SpecOk EB 62 S_ref09_Return := spec_sig ok_ref09_Return (n := 60) fun ⟨c, ⟨⟩⟩ h hok => a_ref09_Return c (ok_core (okSL_head hok))

/-! ref04_Read -/

def S_ref04_Read : Spec := sig [.a .u32 12, .i .u64, .i .i64] [.i .u32] (fun (c, time, n, _) => K.csrRead c time n)
noncomputable def E_ref04_Read : Env := EB.adds []

theorem ok_ref04_Read : EnvOk E_ref04_Read := okEB.adds (l := _) trivial

theorem t_ref04_Read (c : List Int) (time : Int) (n : Int) : evF E_ref04_Read 60 64 (encArgs [.a .u32 12, .i .u64, .i .i64] (c, time, n, ())) = 
  bif (BEq.beq n (7 : Int)) then
    (Tree.leaf (SV.v (Value.int IntKind.u32 (IntKind.wrap IntKind.u32 (Int.tmod time (4294967296 : Int))))))
  else
    (bif (BEq.beq n (8 : Int)) then
      (Tree.leaf (SV.v (Value.int IntKind.u32 (IntKind.wrap IntKind.u32 (IntKind.wrap IntKind.u64 (Int.tdiv time (4294967296 : Int)))))))
    else
      (bif (decide (n < (0 : Int))) then
        (Tree.leaf (SV.v (Value.int IntKind.u32 (0 : Int))))
      else
        (bif (decide (n > (11 : Int))) then
          (Tree.leaf (SV.v (Value.int IntKind.u32 (0 : Int))))
        else
          (bif (inRange n 12) then
            (Tree.leaf (SV.v (Value.int IntKind.u32 (List.getD c ((Int.toNat n)) (0 : Int)))))
          else
            (Tree.fail))))) := by kernel_rfl
theorem a_ref04_Read (c : List Int) (time : Int) (n : Int) (ok_c : okL .u32 12 c) (ok_time : okI .u64 time) (ok_n : okI .i64 n) : (evF E_ref04_Read 60 64 (encArgs [.a .u32 12, .i .u64, .i .i64] (c, time, n, ()))).ends fun out_ => decO [.i .u32] out_ = some (K.csrRead c time n) := by
  rw [t_ref04_Read, Tree.ends_holds]
  obtain ⟨t0, t1⟩ := okI_u64 ok_time
  have e1 : IntKind.u32.wrap (Int.tmod time 4294967296) = time % 4294967296 := by rw [Int.tmod_eq_emod_of_nonneg t0, wrap32]; omega
  have e2 : IntKind.u32.wrap (IntKind.u64.wrap (Int.tdiv time 4294967296)) = time / 4294967296 := by rw [Int.tdiv_eq_ediv_of_nonneg t0, wrap64, wrap32]; omega
  simp only [Tree.holds_loop, Tree.holds_next, if_true, Tree.holds_cond, Tree.holds_letv, Tree.holds_leaf, Tree.holds_fail, decO, decA, decTup, decMach, decCore, decTrap, decInstr, decPart, decGuest, decConf, decEvent, decVcpu, bytesS, boolS, eventsS, intsS, guestsS, vcpusS, rowS, castL, Option.bind_some, Option.map_some, Option.some.injEq, Nat.beq_refl, beq_self_eq_true, Bool.and_self, cond_true, cond_false, eq_self, K.csrRead, e1, e2]
  grind [inRange]
  
theorem c_ref04_Read : SpecOk EB 64 S_ref04_Read := spec_sig ok_ref04_Read (n := 60) fun ⟨c, time, n, ⟨⟩⟩ h hok => a_ref04_Read c time n (ok_arr (okSL_head hok)) (ok_int (okSL_head (okSL_tail hok))) (ok_int (okSL_head (okSL_tail (okSL_tail hok))))

/-! ref04_Writable -/

def S_ref04_Writable : Spec := sig [.i .i64, .i .i64] [.b] (fun (n, b, _) => K.wrB n b)
noncomputable def E_ref04_Writable : Env := EB.adds []

theorem ok_ref04_Writable : EnvOk E_ref04_Writable := okEB.adds (l := _) trivial

theorem t_ref04_Writable (n : Int) (b : Int) : evF E_ref04_Writable 60 93 (encArgs [.i .i64, .i .i64] (n, b, ())) = 
  bif (BEq.beq n (0 : Int)) then
    (bif (decide (b ≥ (1 : Int))) then
      (bif (decide (b ≤ (3 : Int))) then
        (Tree.leaf (SV.b true))
      else
        (Tree.leaf (SV.b false)))
    else
      (Tree.leaf (SV.b false)))
  else
    (bif (BEq.beq n (1 : Int)) then
      (bif (decide (b ≥ (2 : Int))) then
        (Tree.leaf (SV.b true))
      else
        (Tree.leaf (SV.b false)))
    else
      (bif (BEq.beq n (4 : Int)) then
        (bif (decide (b ≥ (2 : Int))) then
          (Tree.leaf (SV.b true))
        else
          (Tree.leaf (SV.b false)))
      else
        (bif (BEq.beq n (5 : Int)) then
          (bif (decide (b ≥ (2 : Int))) then
            (Tree.leaf (SV.b true))
          else
            (Tree.leaf (SV.b false)))
        else
          (bif (BEq.beq n (2 : Int)) then
            (Tree.leaf (SV.b true))
          else
            (bif (BEq.beq n (3 : Int)) then
              (Tree.leaf (SV.b true))
            else
              (bif (BEq.beq n (6 : Int)) then
                (Tree.leaf (SV.b true))
              else
                (bif (BEq.beq n (9 : Int)) then
                  (Tree.leaf (SV.b true))
                else
                  (bif (BEq.beq n (10 : Int)) then
                    (Tree.leaf (SV.b true))
                  else
                    (bif (BEq.beq n (11 : Int)) then
                      (Tree.leaf (SV.b true))
                    else
                      (Tree.leaf (SV.b false))))))))))) := by kernel_rfl
theorem a_ref04_Writable (n : Int) (b : Int) (ok_n : okI .i64 n) (ok_b : okI .i64 b) : (evF E_ref04_Writable 60 93 (encArgs [.i .i64, .i .i64] (n, b, ()))).ends fun out_ => decO [.b] out_ = some (K.wrB n b) := by
  rw [t_ref04_Writable, Tree.ends_holds]
  simp only [Tree.holds_loop, Tree.holds_next, if_true, Tree.holds_cond, Tree.holds_letv, Tree.holds_leaf, Tree.holds_fail, decO, decA, decTup, decMach, decCore, decTrap, decInstr, decPart, decGuest, decConf, decEvent, decVcpu, bytesS, boolS, eventsS, intsS, guestsS, vcpusS, rowS, castL, Option.bind_some, Option.map_some, Option.some.injEq, Nat.beq_refl, beq_self_eq_true, Bool.and_self, cond_true, cond_false, eq_self, K.wrB]
  grind
  
theorem c_ref04_Writable : SpecOk EB 93 S_ref04_Writable := spec_sig ok_ref04_Writable (n := 60) fun ⟨n, b, ⟨⟩⟩ h hok => a_ref04_Writable n b (ok_int (okSL_head hok)) (ok_int (okSL_head (okSL_tail hok)))

/-! ref04_Write -/
def K.wTo (c : List Int) (n v : Int) (j : Nat) : Int := ((K.mix (c.getD n.toNat 0) v (K.mask n)).toNat % 2 ^ j : Nat)
@[reducible] def L_ref04_Write (c : List Int) (n v : Int) : LoopSpec where
  σ := Nat
  slots := [1, 2, 3, 6, 7, 8, 9]
  keys := [3, 6]
  vals := fun j => [.v (.int .i64 n), .v (.int .u32 v), .loc 0 0 0 1, .loc 1 0 0 1, .v (.int .u32 (K.wTo c n v j)), .v (.int .u32 (((2 ^ j : Nat) : Int) % 4294967296)), .v (.int .i64 (j : Int))]
  blks := fun _ => [.cells [.arr .u32 12 c] 24, .cells [.arr .u32 12 [0, 0, 0, 0, 0, 0, 0, 0, 0, 0, 0, 0]] 24]
  inv := fun j => j ≤ 32
  mu := fun j => 32 - j
def S_ref04_Write : Spec := sig [.a .u32 12, .i .i64, .i .u32] [.a .u32 12] (fun (c, n, v, _) => K.csrWrite c n v)
noncomputable def E_ref04_Write : Env := EB.adds [(93, S_ref04_Writable)]

theorem ok_ref04_Write : EnvOk E_ref04_Write := okEB.adds (l := _) ⟨c_ref04_Writable, trivial⟩

theorem t_ref04_Write (c : List Int) (n : Int) (v : Int) : evFL E_ref04_Write (fun _ => some (L_ref04_Write c n v)) 60 65 (encArgs [.a .u32 12, .i .i64, .i .u32] (c, n, v, ())) = 
  bif (decide (n < (0 : Int))) then
    (Tree.leaf (SV.agg [(SV.arr IntKind.u32 12 c)]))
  else
    (bif (decide (n > (11 : Int))) then
      (Tree.leaf (SV.agg [(SV.arr IntKind.u32 12 c)]))
    else
      (Tree.loop 0 (L_ref04_Write c n v) [(SV.v (Value.int IntKind.i64 n)), (SV.v (Value.int IntKind.u32 v)), (SV.loc 0 0 0 1), (SV.loc 1 0 0 1), (SV.v (Value.int IntKind.u32 (0 : Int))), (SV.v (Value.int IntKind.u32 (1 : Int))), (SV.v (Value.int IntKind.i64 (0 : Int)))] [(Blk.cells [(SV.arr IntKind.u32 12 c)] 24), (Blk.cells [(SV.arr IntKind.u32 12 [(0 : Int), (0 : Int), (0 : Int), (0 : Int), (0 : Int), (0 : Int), (0 : Int), (0 : Int), (0 : Int), (0 : Int), (0 : Int), (0 : Int)])] 24)] fun (x0 : Nat) =>
      (bif (decide ((Int.ofNat x0) < (32 : Int))) then
        (bif (inRange n 12) then
          (bif (bne ((Int.ofNat (2 ^ x0)) % (4294967296 : Int)) (0 : Int)) then
            (Tree.letv (okO [AT.b]) (K.wrB n (Int.ofNat x0)) fun x1 =>
            (bif x1 then
              (bif (bne ((Int.ofNat (2 ^ x0)) % (4294967296 : Int)) (0 : Int)) then
                ((Tree.next 0 [(SV.v (Value.int IntKind.i64 n)), (SV.v (Value.int IntKind.u32 v)), (SV.loc 0 0 0 1), (SV.loc 1 0 0 1), (SV.v (Value.int IntKind.u32 (IntKind.wrap IntKind.u32 ((K.wTo c n v x0) + (IntKind.wrap IntKind.u32 ((Int.tmod (IntKind.wrap IntKind.u32 (Int.tdiv v ((Int.ofNat (2 ^ x0)) % (4294967296 : Int)))) (2 : Int)) * ((Int.ofNat (2 ^ x0)) % (4294967296 : Int)))))))), (SV.v (Value.int IntKind.u32 (IntKind.wrap IntKind.u32 (((Int.ofNat (2 ^ x0)) % (4294967296 : Int)) * (2 : Int))))), (SV.v (Value.int IntKind.i64 (IntKind.wrap IntKind.i64 ((Int.ofNat x0) + (1 : Int)))))] [(Blk.cells [(SV.arr IntKind.u32 12 c)] 24), (Blk.cells [(SV.arr IntKind.u32 12 [(0 : Int), (0 : Int), (0 : Int), (0 : Int), (0 : Int), (0 : Int), (0 : Int), (0 : Int), (0 : Int), (0 : Int), (0 : Int), (0 : Int)])] 24)]))
              else
                (Tree.fail))
            else
              ((Tree.next 0 [(SV.v (Value.int IntKind.i64 n)), (SV.v (Value.int IntKind.u32 v)), (SV.loc 0 0 0 1), (SV.loc 1 0 0 1), (SV.v (Value.int IntKind.u32 (IntKind.wrap IntKind.u32 ((K.wTo c n v x0) + (IntKind.wrap IntKind.u32 ((Int.tmod (IntKind.wrap IntKind.u32 (Int.tdiv (List.getD c ((Int.toNat n)) (0 : Int)) ((Int.ofNat (2 ^ x0)) % (4294967296 : Int)))) (2 : Int)) * ((Int.ofNat (2 ^ x0)) % (4294967296 : Int)))))))), (SV.v (Value.int IntKind.u32 (IntKind.wrap IntKind.u32 (((Int.ofNat (2 ^ x0)) % (4294967296 : Int)) * (2 : Int))))), (SV.v (Value.int IntKind.i64 (IntKind.wrap IntKind.i64 ((Int.ofNat x0) + (1 : Int)))))] [(Blk.cells [(SV.arr IntKind.u32 12 c)] 24), (Blk.cells [(SV.arr IntKind.u32 12 [(0 : Int), (0 : Int), (0 : Int), (0 : Int), (0 : Int), (0 : Int), (0 : Int), (0 : Int), (0 : Int), (0 : Int), (0 : Int), (0 : Int)])] 24)]))))
          else
            (Tree.fail))
        else
          (Tree.fail))
      else
        (bif (inRange n 12) then
          (Tree.leaf (SV.agg [(SV.arr IntKind.u32 12 (List.set c ((Int.toNat n)) (K.wTo c n v x0)))]))
        else
          (Tree.fail))))) := by kernel_rfl
theorem a_ref04_Write (c : List Int) (n : Int) (v : Int) (ok_c : okL .u32 12 c) (ok_n : okI .i64 n) (ok_v : okI .u32 v) : (evFL E_ref04_Write (fun _ => some (L_ref04_Write c n v)) 60 65 (encArgs [.a .u32 12, .i .i64, .i .u32] (c, n, v, ()))).ends fun out_ => decO [.a .u32 12] out_ = some (K.csrWrite c n v) := by
  rw [t_ref04_Write, Tree.ends_holds]
  obtain ⟨v0, v1⟩ := okI_u32 ok_v
  simp only [Tree.holds_cond, Tree.holds_leaf, Tree.holds_loop]
  refine ⟨fun h => ?_, fun h0 => ⟨fun h => ?_, fun h1 => ?_⟩⟩
  · have h : n < 0 := by simpa using h
    simp only [decO, decA, decTup, decMach, decCore, decTrap, decInstr, decPart, decGuest, decConf, decEvent, decVcpu, bytesS, boolS, eventsS, intsS, guestsS, vcpusS, rowS, castL, Option.bind_some, Option.map_some, Option.some.injEq, Nat.beq_refl, beq_self_eq_true, Bool.and_self, cond_true, cond_false, eq_self, K.csrWrite]; rw [if_neg (by omega)]
  · have h : n > 11 := by simpa using h
    simp only [decO, decA, decTup, decMach, decCore, decTrap, decInstr, decPart, decGuest, decConf, decEvent, decVcpu, bytesS, boolS, eventsS, intsS, guestsS, vcpusS, rowS, castL, Option.bind_some, Option.map_some, Option.some.injEq, Nat.beq_refl, beq_self_eq_true, Bool.and_self, cond_true, cond_false, eq_self, K.csrWrite]; rw [if_neg (by omega)]
  have n0 : 0 ≤ n := by simp at h0; omega
  have n1 : n < 12 := by simp at h1; omega
  have hr : inRange n 12 = true := inRange_iff.2 ⟨n0, n1⟩
  obtain ⟨x0, x1⟩ := ok_c.u32 (i := n.toNat) (by omega)
  obtain ⟨m0, m1⟩ := K.mask_ok n
  have ok2 := K.mix_ok x0 x1 v0 v1 m0 m1
  have hm : K.mask n = K.mk.getD n.toNat 0 := by unfold K.mask; rw [if_pos ⟨n0, n1⟩]
  have hbit : ∀ i : Nat, (K.mix (c.getD n.toNat 0) v (K.mask n)).toNat.testBit i = (if (K.mask n).toNat.testBit i then v.toNat.testBit i else (c.getD n.toNat 0).toNat.testBit i) := fun i => by
    have := mix_nat (x := (c.getD n.toNat 0).toNat) (v := v.toNat) (m := (K.mask n).toNat) (by omega) (by omega) (by omega)
    rw [Int.toNat_of_nonneg x0, Int.toNat_of_nonneg v0, Int.toNat_of_nonneg m0] at this
    rw [this, Int.toNat_natCast, mix_bit (by omega) (by omega)]
  have hfin : K.csrWrite c n v = c.set n.toNat (K.mix (c.getD n.toNat 0) v (K.mask n)) := by unfold K.csrWrite; rw [if_pos ⟨n0, n1⟩, hm]
  refine ⟨⟨(0 : Nat), by simp [K.wTo, Nat.mod_one], rfl, Nat.zero_le _, trivial⟩, fun (j : Nat) (hj : j ≤ 32) => ?_⟩
  simp only [Tree.holds_loop, Tree.holds_next, if_true, Tree.holds_cond, Tree.holds_letv, Tree.holds_leaf, Tree.holds_fail]
  have hwr := fun (h : j < 32) => wrB_bit (n := n) h
  have hw : ∀ i, K.wTo c n v i = (((K.mix (c.getD n.toNat 0) v (K.mask n)).toNat % 2 ^ i : Nat) : Int) := fun _ => rfl
  rw [hfin]
  generalize hX : (c.getD n.toNat 0) = X at *
  generalize hMM : K.mask n = m at *
  generalize hTT : K.mix X v m = T at *
  refine ⟨fun h => ?_, fun h => ?_⟩
  · have hlt : j < 32 := by simp at h; omega
    have h2 := pow_le32 (i := j) (by omega)
    have h3 : 2 ^ j ≤ 2147483648 := by
      have : 2 ^ j ≤ 2 ^ 31 := Nat.pow_le_pow_right (by omega) (by omega)
      omega
    have hp := Nat.two_pow_pos j
    have e2 : IntKind.i64.wrap ((j : Int) + 1) = ((j + 1 : Nat) : Int) := by rw [wrapI64 (by omega) (by omega)]; rfl
    have e3 : (((2 ^ j : Nat) : Int) % 4294967296) = ((2 ^ j : Nat) : Int) := by omega
    have e4 : IntKind.u32.wrap (((2 ^ j : Nat) : Int) * 2) = (((2 ^ (j + 1) : Nat) : Int) % 4294967296) := by rw [wrap32, Nat.pow_succ]; omega
    have hne : ((((2 ^ j : Nat) : Int)) != 0) = true := bne_iff_ne.2 (by omega)
    have key : ∀ x : Int, 0 ≤ x → x < 4294967296 → x.toNat.testBit j = T.toNat.testBit j →
        IntKind.u32.wrap (K.wTo c n v j + IntKind.u32.wrap ((Int.tmod (IntKind.u32.wrap (Int.tdiv x ((2 ^ j : Nat) : Int))) 2) * ((2 ^ j : Nat) : Int))) = K.wTo c n v (j + 1) := fun x a0 a1 hb => by
      obtain ⟨x, rfl⟩ := Int.eq_ofNat_of_zero_le a0
      rw [Int.toNat_natCast] at hb
      rw [hw, hw, bit_more_aux, ← hb, Nat.toNat_testBit]
      have b1 : Int.tdiv (x : Int) ((2 ^ j : Nat) : Int) = ((x / 2 ^ j : Nat) : Int) := by rw [Int.tdiv_eq_ediv_of_nonneg (by omega)]; rfl
      have b2 : x / 2 ^ j ≤ x := Nat.div_le_self _ _
      have hz0 : x / 2 ^ j % 2 < 2 := Nat.mod_lt _ (by omega)
      have b3 : T.toNat % 2 ^ j < 2 ^ j := Nat.mod_lt _ hp
      have b4 : IntKind.u32.wrap ((x / 2 ^ j : Nat) : Int) = ((x / 2 ^ j : Nat) : Int) := by
        generalize x / 2 ^ j = y at *
        rw [wrap32]; omega
      have b5 : Int.tmod ((x / 2 ^ j : Nat) : Int) 2 = ((x / 2 ^ j % 2 : Nat) : Int) := by rw [Int.tmod_eq_emod_of_nonneg (Int.natCast_nonneg _)]; rfl
      rw [b1, b4, b5, wrap32, wrap32]
      generalize x / 2 ^ j % 2 = z at *
      have hz : z = 0 ∨ z = 1 := by omega
      generalize T.toNat % 2 ^ j = y at *
      generalize 2 ^ j = q at *
      rcases hz with rfl | rfl
      · simp only [Int.natCast_zero, Int.zero_mul, Nat.mul_zero]; omega
      · simp only [Int.natCast_one, Int.one_mul, Nat.mul_one]; omega
    have nx : ∀ z : Int, z = K.wTo c n v (j + 1) → (L_ref04_Write c n v).at (fun y => (L_ref04_Write c n v).mu y < (L_ref04_Write c n v).mu j) [SV.v (.int .i64 n), .v (.int .u32 v), .loc 0 0 0 1, .loc 1 0 0 1, .v (.int .u32 z), .v (.int .u32 (IntKind.u32.wrap (((2 ^ j : Nat) : Int) * 2))), .v (.int .i64 (IntKind.i64.wrap ((j : Int) + 1)))] [.cells [.arr .u32 12 c] 24, .cells [.arr .u32 12 [0, 0, 0, 0, 0, 0, 0, 0, 0, 0, 0, 0]] 24] := fun z hz => by
      refine ⟨j + 1, ?_, rfl, ?_, ?_⟩
      · rw [hz, e2, e4]
      · show j + 1 ≤ 32; omega
      · show 32 - (j + 1) < 32 - j; omega
    have hb := hbit j
    have hwr := hwr hlt
    simp only [Int.ofNat_eq_natCast] at *
    rw [hwr]
    simp only [e3, hne, hr, true_implies, Bool.true_eq_false, false_implies, and_true]
    intro _
    refine ⟨fun q => ?_, fun q => ?_⟩
    · rw [q] at hb
      exact nx _ (key v v0 v1 (by simpa using hb.symm))
    · rw [q] at hb
      refine nx _ (key X x0 x1 (by simpa using hb.symm))
  · have : j = 32 := by simp at h; omega
    subst this
    have e : K.wTo c n v 32 = T := by
      rw [hw, Nat.mod_eq_of_lt (show T.toNat < 2 ^ 32 by omega), Int.toNat_of_nonneg ok2.1]
    rw [e, hr]
    simp [decO, decA, decTup, decMach, decCore, decTrap, decInstr, decPart, decGuest, decConf, decEvent, decVcpu, bytesS, boolS, eventsS, intsS, guestsS, vcpusS, rowS, castL, Option.bind_some, Option.map_some, Option.some.injEq, Nat.beq_refl, beq_self_eq_true, Bool.and_self, cond_true, cond_false, eq_self]
  
  
theorem c_ref04_Write : SpecOk EB 65 S_ref04_Write := spec_sigL ok_ref04_Write (n := 60) (fun (c, n, v, _) => fun _ => some (L_ref04_Write c n v)) fun ⟨c, n, v, ⟨⟩⟩ h hok => a_ref04_Write c n v (ok_arr (okSL_head hok)) (ok_int (okSL_head (okSL_tail hok))) (ok_int (okSL_head (okSL_tail (okSL_tail hok))))

/-! ref12_Do -/

def S_ref12_Do : Spec := sig [.mach, .instr] [.mach] (fun (m, i, _) => K.priv m i) (pre := fun (m, i, _) => decide (m.out.length ≤ 1099511627776))
noncomputable def E_ref12_Do : Env := EB.adds [(61, S_ref07_Get), (63, S_ref07_Put), (62, S_ref09_Return), (64, S_ref04_Read), (65, S_ref04_Write)]

theorem ok_ref12_Do : EnvOk E_ref12_Do := okEB.adds (l := _) ⟨c_ref07_Get, c_ref07_Put, c_ref09_Return, c_ref04_Read, c_ref04_Write, trivial⟩

theorem t_ref12_Do (m : PMach) (i : PInstr) : evF E_ref12_Do 60 39 (encArgs [.mach, .instr] (m, i, ())) = 
  Tree.letv (okO [(AT.i IntKind.u32)]) (K.get m.core.regs i.ra) fun x0 =>
  (bif (BEq.beq i.op (23 : Int)) then
    (Tree.letv (okO [AT.core]) (K.ret m.core) fun x1 =>
    (Tree.leaf (SV.agg [(SV.arr IntKind.u32 16 x1.regs), (SV.v (Value.int IntKind.u32 x1.pc)), (SV.arr IntKind.u32 12 x1.csr), (SV.rd ETy.u8 m.mem), (SV.v (Value.int IntKind.u64 m.time)), (SV.rd ETy.u8 m.out), (SV.v (Value.bool m.halted))])))
  else
    (bif (BEq.beq i.op (21 : Int)) then
      (Tree.letv (okO [(AT.i IntKind.u32)]) (K.csrRead m.core.csr m.time (IntKind.wrap IntKind.i64 i.imm)) fun x1 =>
      (Tree.letv (okO [(AT.a IntKind.u32 16)]) (K.put m.core.regs i.rd x1) fun x2 =>
      (bif (BEq.beq i.op (22 : Int)) then
        (Tree.letv (okO [(AT.a IntKind.u32 12)]) (K.csrWrite m.core.csr (IntKind.wrap IntKind.i64 i.imm) x0) fun x3 =>
        (bif (BEq.beq i.op (24 : Int)) then
          (bif (BEq.beq i.op (25 : Int)) then
            (bif (Bool.or (Bool.not (Nat.beq (List.length m.out) 0)) true) then
              (bif (Nat.ble ((0 + (List.length m.out)) * 1) 140737488355328) then
                (bif (Nat.ble (((List.length m.out) + 1) * 1) 140737488355328) then
                  (Tree.leaf (SV.agg [(SV.arr IntKind.u32 16 x2), (SV.v (Value.int IntKind.u32 (IntKind.wrap IntKind.u32 (m.core.pc + (4 : Int))))), (SV.arr IntKind.u32 12 x3), (SV.rd ETy.u8 m.mem), (SV.v (Value.int IntKind.u64 m.time)), (SV.rd ETy.u8 (List.append m.out [(IntKind.wrap IntKind.u8 (Int.tmod x0 (256 : Int)))])), (SV.b true)]))
                else
                  (Tree.fail))
              else
                (Tree.fail))
            else
              (Tree.fail))
          else
            (Tree.leaf (SV.agg [(SV.arr IntKind.u32 16 x2), (SV.v (Value.int IntKind.u32 (IntKind.wrap IntKind.u32 (m.core.pc + (4 : Int))))), (SV.arr IntKind.u32 12 x3), (SV.rd ETy.u8 m.mem), (SV.v (Value.int IntKind.u64 m.time)), (SV.rd ETy.u8 m.out), (SV.b true)])))
        else
          (bif (BEq.beq i.op (25 : Int)) then
            (bif (Bool.or (Bool.not (Nat.beq (List.length m.out) 0)) true) then
              (bif (Nat.ble ((0 + (List.length m.out)) * 1) 140737488355328) then
                (bif (Nat.ble (((List.length m.out) + 1) * 1) 140737488355328) then
                  (Tree.leaf (SV.agg [(SV.arr IntKind.u32 16 x2), (SV.v (Value.int IntKind.u32 (IntKind.wrap IntKind.u32 (m.core.pc + (4 : Int))))), (SV.arr IntKind.u32 12 x3), (SV.rd ETy.u8 m.mem), (SV.v (Value.int IntKind.u64 m.time)), (SV.rd ETy.u8 (List.append m.out [(IntKind.wrap IntKind.u8 (Int.tmod x0 (256 : Int)))])), (SV.v (Value.bool m.halted))]))
                else
                  (Tree.fail))
              else
                (Tree.fail))
            else
              (Tree.fail))
          else
            (Tree.leaf (SV.agg [(SV.arr IntKind.u32 16 x2), (SV.v (Value.int IntKind.u32 (IntKind.wrap IntKind.u32 (m.core.pc + (4 : Int))))), (SV.arr IntKind.u32 12 x3), (SV.rd ETy.u8 m.mem), (SV.v (Value.int IntKind.u64 m.time)), (SV.rd ETy.u8 m.out), (SV.v (Value.bool m.halted))])))))
      else
        (bif (BEq.beq i.op (24 : Int)) then
          (bif (BEq.beq i.op (25 : Int)) then
            (bif (Bool.or (Bool.not (Nat.beq (List.length m.out) 0)) true) then
              (bif (Nat.ble ((0 + (List.length m.out)) * 1) 140737488355328) then
                (bif (Nat.ble (((List.length m.out) + 1) * 1) 140737488355328) then
                  (Tree.leaf (SV.agg [(SV.arr IntKind.u32 16 x2), (SV.v (Value.int IntKind.u32 (IntKind.wrap IntKind.u32 (m.core.pc + (4 : Int))))), (SV.arr IntKind.u32 12 m.core.csr), (SV.rd ETy.u8 m.mem), (SV.v (Value.int IntKind.u64 m.time)), (SV.rd ETy.u8 (List.append m.out [(IntKind.wrap IntKind.u8 (Int.tmod x0 (256 : Int)))])), (SV.b true)]))
                else
                  (Tree.fail))
              else
                (Tree.fail))
            else
              (Tree.fail))
          else
            (Tree.leaf (SV.agg [(SV.arr IntKind.u32 16 x2), (SV.v (Value.int IntKind.u32 (IntKind.wrap IntKind.u32 (m.core.pc + (4 : Int))))), (SV.arr IntKind.u32 12 m.core.csr), (SV.rd ETy.u8 m.mem), (SV.v (Value.int IntKind.u64 m.time)), (SV.rd ETy.u8 m.out), (SV.b true)])))
        else
          (bif (BEq.beq i.op (25 : Int)) then
            (bif (Bool.or (Bool.not (Nat.beq (List.length m.out) 0)) true) then
              (bif (Nat.ble ((0 + (List.length m.out)) * 1) 140737488355328) then
                (bif (Nat.ble (((List.length m.out) + 1) * 1) 140737488355328) then
                  (Tree.leaf (SV.agg [(SV.arr IntKind.u32 16 x2), (SV.v (Value.int IntKind.u32 (IntKind.wrap IntKind.u32 (m.core.pc + (4 : Int))))), (SV.arr IntKind.u32 12 m.core.csr), (SV.rd ETy.u8 m.mem), (SV.v (Value.int IntKind.u64 m.time)), (SV.rd ETy.u8 (List.append m.out [(IntKind.wrap IntKind.u8 (Int.tmod x0 (256 : Int)))])), (SV.v (Value.bool m.halted))]))
                else
                  (Tree.fail))
              else
                (Tree.fail))
            else
              (Tree.fail))
          else
            (Tree.leaf (SV.agg [(SV.arr IntKind.u32 16 x2), (SV.v (Value.int IntKind.u32 (IntKind.wrap IntKind.u32 (m.core.pc + (4 : Int))))), (SV.arr IntKind.u32 12 m.core.csr), (SV.rd ETy.u8 m.mem), (SV.v (Value.int IntKind.u64 m.time)), (SV.rd ETy.u8 m.out), (SV.v (Value.bool m.halted))])))))))
    else
      (bif (BEq.beq i.op (22 : Int)) then
        (Tree.letv (okO [(AT.a IntKind.u32 12)]) (K.csrWrite m.core.csr (IntKind.wrap IntKind.i64 i.imm) x0) fun x1 =>
        (bif (BEq.beq i.op (24 : Int)) then
          (bif (BEq.beq i.op (25 : Int)) then
            (bif (Bool.or (Bool.not (Nat.beq (List.length m.out) 0)) true) then
              (bif (Nat.ble ((0 + (List.length m.out)) * 1) 140737488355328) then
                (bif (Nat.ble (((List.length m.out) + 1) * 1) 140737488355328) then
                  (Tree.leaf (SV.agg [(SV.arr IntKind.u32 16 m.core.regs), (SV.v (Value.int IntKind.u32 (IntKind.wrap IntKind.u32 (m.core.pc + (4 : Int))))), (SV.arr IntKind.u32 12 x1), (SV.rd ETy.u8 m.mem), (SV.v (Value.int IntKind.u64 m.time)), (SV.rd ETy.u8 (List.append m.out [(IntKind.wrap IntKind.u8 (Int.tmod x0 (256 : Int)))])), (SV.b true)]))
                else
                  (Tree.fail))
              else
                (Tree.fail))
            else
              (Tree.fail))
          else
            (Tree.leaf (SV.agg [(SV.arr IntKind.u32 16 m.core.regs), (SV.v (Value.int IntKind.u32 (IntKind.wrap IntKind.u32 (m.core.pc + (4 : Int))))), (SV.arr IntKind.u32 12 x1), (SV.rd ETy.u8 m.mem), (SV.v (Value.int IntKind.u64 m.time)), (SV.rd ETy.u8 m.out), (SV.b true)])))
        else
          (bif (BEq.beq i.op (25 : Int)) then
            (bif (Bool.or (Bool.not (Nat.beq (List.length m.out) 0)) true) then
              (bif (Nat.ble ((0 + (List.length m.out)) * 1) 140737488355328) then
                (bif (Nat.ble (((List.length m.out) + 1) * 1) 140737488355328) then
                  (Tree.leaf (SV.agg [(SV.arr IntKind.u32 16 m.core.regs), (SV.v (Value.int IntKind.u32 (IntKind.wrap IntKind.u32 (m.core.pc + (4 : Int))))), (SV.arr IntKind.u32 12 x1), (SV.rd ETy.u8 m.mem), (SV.v (Value.int IntKind.u64 m.time)), (SV.rd ETy.u8 (List.append m.out [(IntKind.wrap IntKind.u8 (Int.tmod x0 (256 : Int)))])), (SV.v (Value.bool m.halted))]))
                else
                  (Tree.fail))
              else
                (Tree.fail))
            else
              (Tree.fail))
          else
            (Tree.leaf (SV.agg [(SV.arr IntKind.u32 16 m.core.regs), (SV.v (Value.int IntKind.u32 (IntKind.wrap IntKind.u32 (m.core.pc + (4 : Int))))), (SV.arr IntKind.u32 12 x1), (SV.rd ETy.u8 m.mem), (SV.v (Value.int IntKind.u64 m.time)), (SV.rd ETy.u8 m.out), (SV.v (Value.bool m.halted))])))))
      else
        (bif (BEq.beq i.op (24 : Int)) then
          (bif (BEq.beq i.op (25 : Int)) then
            (bif (Bool.or (Bool.not (Nat.beq (List.length m.out) 0)) true) then
              (bif (Nat.ble ((0 + (List.length m.out)) * 1) 140737488355328) then
                (bif (Nat.ble (((List.length m.out) + 1) * 1) 140737488355328) then
                  (Tree.leaf (SV.agg [(SV.arr IntKind.u32 16 m.core.regs), (SV.v (Value.int IntKind.u32 (IntKind.wrap IntKind.u32 (m.core.pc + (4 : Int))))), (SV.arr IntKind.u32 12 m.core.csr), (SV.rd ETy.u8 m.mem), (SV.v (Value.int IntKind.u64 m.time)), (SV.rd ETy.u8 (List.append m.out [(IntKind.wrap IntKind.u8 (Int.tmod x0 (256 : Int)))])), (SV.b true)]))
                else
                  (Tree.fail))
              else
                (Tree.fail))
            else
              (Tree.fail))
          else
            (Tree.leaf (SV.agg [(SV.arr IntKind.u32 16 m.core.regs), (SV.v (Value.int IntKind.u32 (IntKind.wrap IntKind.u32 (m.core.pc + (4 : Int))))), (SV.arr IntKind.u32 12 m.core.csr), (SV.rd ETy.u8 m.mem), (SV.v (Value.int IntKind.u64 m.time)), (SV.rd ETy.u8 m.out), (SV.b true)])))
        else
          (bif (BEq.beq i.op (25 : Int)) then
            (bif (Bool.or (Bool.not (Nat.beq (List.length m.out) 0)) true) then
              (bif (Nat.ble ((0 + (List.length m.out)) * 1) 140737488355328) then
                (bif (Nat.ble (((List.length m.out) + 1) * 1) 140737488355328) then
                  (Tree.leaf (SV.agg [(SV.arr IntKind.u32 16 m.core.regs), (SV.v (Value.int IntKind.u32 (IntKind.wrap IntKind.u32 (m.core.pc + (4 : Int))))), (SV.arr IntKind.u32 12 m.core.csr), (SV.rd ETy.u8 m.mem), (SV.v (Value.int IntKind.u64 m.time)), (SV.rd ETy.u8 (List.append m.out [(IntKind.wrap IntKind.u8 (Int.tmod x0 (256 : Int)))])), (SV.v (Value.bool m.halted))]))
                else
                  (Tree.fail))
              else
                (Tree.fail))
            else
              (Tree.fail))
          else
            (Tree.leaf (SV.agg [(SV.arr IntKind.u32 16 m.core.regs), (SV.v (Value.int IntKind.u32 (IntKind.wrap IntKind.u32 (m.core.pc + (4 : Int))))), (SV.arr IntKind.u32 12 m.core.csr), (SV.rd ETy.u8 m.mem), (SV.v (Value.int IntKind.u64 m.time)), (SV.rd ETy.u8 m.out), (SV.v (Value.bool m.halted))]))))))) := by kernel_rfl
theorem a_ref12_Do (m : PMach) (i : PInstr) (hpre : m.out.length ≤ 1099511627776) (ok_m : okMach m) (ok_i : okInstr i) : (evF E_ref12_Do 60 39 (encArgs [.mach, .instr] (m, i, ()))).ends fun out_ => decO [.mach] out_ = some (K.priv m i) := by
  rw [t_ref12_Do, Tree.ends_holds]
  obtain ⟨a, b⟩ := okI_i32 ok_i.imm
  have e1 : IntKind.i64.wrap i.imm = i.imm := wrapI64 (by omega) (by omega)
  obtain ⟨g0, g1⟩ := K.get_ok ok_m.core.regs i.ra
  have e2 : Int.tmod (K.get m.core.regs i.ra) 256 = K.get m.core.regs i.ra % 256 := Int.tmod_eq_emod_of_nonneg g0
  simp only [Tree.holds_loop, Tree.holds_next, if_true, Tree.holds_cond, Tree.holds_letv, Tree.holds_leaf, Tree.holds_fail, decO, decA, decTup, decMach, decCore, decTrap, decInstr, decPart, decGuest, decConf, decEvent, decVcpu, bytesS, boolS, eventsS, intsS, guestsS, vcpusS, rowS, castL, Option.bind_some, Option.map_some, Option.some.injEq, Nat.beq_refl, beq_self_eq_true, Bool.and_self, cond_true, cond_false, eq_self, e1, e2, wrap8, wrap32, beq_iff_eq, beq_eq_false_iff_ne, bne_iff_ne, bne_eq_false_iff_eq, ne_eq, decide_eq_true_eq, decide_eq_false_iff_not, ble_true, ble_false, inRange_iff, inRange_false, List.drop_zero, Int.ofNat_eq_natCast, Int.toNat_natCast, List.take_length, List.append_eq, Bool.and_eq_true, decide_true, and_true, true_and, Int.emod_emod]
  repeat' (first | refine drop_ok ?_ | intro _ | with_reducible apply And.intro)
  all_goals first | omega | (simp_all [K.priv, K.adv]; done) | skip
  
theorem c_ref12_Do : SpecOk EB 39 S_ref12_Do := spec_sig ok_ref12_Do (n := 60) fun ⟨m, i, ⟨⟩⟩ h hok => a_ref12_Do m i (of_decide_eq_true h) (ok_mach (okSL_head hok)) (ok_instr (okSL_head (okSL_tail hok)))

/-! ref12_Reads -/

def S_ref12_Reads : Spec := sig [.instr] [.b] (fun (i, _) => K.reads i)
noncomputable def E_ref12_Reads : Env := EB.adds []

theorem ok_ref12_Reads : EnvOk E_ref12_Reads := okEB.adds (l := _) trivial

theorem t_ref12_Reads (i : PInstr) : evF E_ref12_Reads 60 40 (encArgs [.instr] (i, ())) = 
  bif (BEq.beq i.op (21 : Int)) then
    (bif (BEq.beq i.imm (7 : Int)) then
      (Tree.leaf (SV.b true))
    else
      (bif (BEq.beq i.imm (8 : Int)) then
        (Tree.leaf (SV.b true))
      else
        (Tree.leaf (SV.b false))))
  else
    (Tree.leaf (SV.b false)) := by kernel_rfl
theorem a_ref12_Reads (i : PInstr) (ok_i : okInstr i) : (evF E_ref12_Reads 60 40 (encArgs [.instr] (i, ()))).ends fun out_ => decO [.b] out_ = some (K.reads i) := by
  rw [t_ref12_Reads, Tree.ends_holds]
  simp only [Tree.holds_loop, Tree.holds_next, if_true, Tree.holds_cond, Tree.holds_letv, Tree.holds_leaf, Tree.holds_fail, decO, decA, decTup, decMach, decCore, decTrap, decInstr, decPart, decGuest, decConf, decEvent, decVcpu, bytesS, boolS, eventsS, intsS, guestsS, vcpusS, rowS, castL, Option.bind_some, Option.map_some, Option.some.injEq, Nat.beq_refl, beq_self_eq_true, Bool.and_self, cond_true, cond_false, eq_self, beq_iff_eq, beq_eq_false_iff_ne, bne_iff_ne, bne_eq_false_iff_eq, ne_eq, decide_eq_true_eq, decide_eq_false_iff_not, ble_true, ble_false, inRange_iff, inRange_false]
  repeat' (first | refine drop_ok ?_ | intro _ | with_reducible apply And.intro)
  all_goals simp_all [K.reads]
  
theorem c_ref12_Reads : SpecOk EB 40 S_ref12_Reads := spec_sig ok_ref12_Reads (n := 60) fun ⟨i, ⟨⟩⟩ h hok => a_ref12_Reads i (ok_instr (okSL_head hok))

/-! ref19_Do -/

def S_ref19_Do : Spec := sig [.vcpu, .i .u32, .i .u64] [.vcpu] (fun (v, w, time, _) => K.emu v w time) (pre := fun (v, w, time, _) => decide (v.out.length ≤ 1099511627776 ∧ v.log.length ≤ 1099511627776))
noncomputable def E_ref19_Do : Env := EB.adds [(19, S_ref02_Decode), (20, S_ref02_Privileged), (39, S_ref12_Do), (40, S_ref12_Reads)]

theorem ok_ref19_Do : EnvOk E_ref19_Do := okEB.adds (l := _) ⟨c_ref02_Decode, c_ref02_Privileged, c_ref12_Do, c_ref12_Reads, trivial⟩

theorem t_ref19_Do (v : PVcpu) (w : Int) (time : Int) : evF E_ref19_Do 60 15 (encArgs [.vcpu, .i .u32, .i .u64] (v, w, time, ())) = 
  Tree.letv (okO [AT.instr, AT.b]) (K.decode w) fun x0 =>
  (bif x0.snd then
    (Tree.letv (okO [AT.b]) (K.privd x0.fst.op) fun x1 =>
    (bif x1 then
      (bif v.halted then
        (bif (decide ((List.length v.out) ≤ 1099511627776)) then
          (Tree.letv (okO [AT.mach]) (K.priv (PMach.mk v.core [] time v.out true) x0.fst) fun x2 =>
          (bif x2.halted then
            (Tree.letv (okO [AT.b]) (K.reads x0.fst) fun x3 =>
            (bif x3 then
              (bif (Bool.or (Bool.not (Nat.beq (List.length v.log) 0)) true) then
                (bif (Nat.ble ((0 + (List.length v.log)) * 24) 140737488355328) then
                  (bif (Nat.ble (((List.length v.log) + 1) * 24) 140737488355328) then
                    (Tree.leaf (SV.agg [(SV.arr IntKind.u32 16 x2.core.regs), (SV.v (Value.int IntKind.u32 x2.core.pc)), (SV.arr IntKind.u32 12 x2.core.csr), (SV.rd ETy.u8 x2.out), (SV.b true), (SV.v (Value.int IntKind.i64 (IntKind.wrap IntKind.i64 (v.done + (1 : Int))))), (SV.rd ETy.event (List.append v.log [(PEvent.mk (IntKind.wrap IntKind.i64 ((IntKind.wrap IntKind.i64 x0.fst.imm) - (5 : Int))) v.done time)]))]))
                  else
                    (Tree.fail))
                else
                  (Tree.fail))
              else
                (Tree.fail))
            else
              (Tree.leaf (SV.agg [(SV.arr IntKind.u32 16 x2.core.regs), (SV.v (Value.int IntKind.u32 x2.core.pc)), (SV.arr IntKind.u32 12 x2.core.csr), (SV.rd ETy.u8 x2.out), (SV.b true), (SV.v (Value.int IntKind.i64 (IntKind.wrap IntKind.i64 (v.done + (1 : Int))))), (SV.rd ETy.event v.log)]))))
          else
            (Tree.letv (okO [AT.b]) (K.reads x0.fst) fun x3 =>
            (bif x3 then
              (bif (Bool.or (Bool.not (Nat.beq (List.length v.log) 0)) true) then
                (bif (Nat.ble ((0 + (List.length v.log)) * 24) 140737488355328) then
                  (bif (Nat.ble (((List.length v.log) + 1) * 24) 140737488355328) then
                    (Tree.leaf (SV.agg [(SV.arr IntKind.u32 16 x2.core.regs), (SV.v (Value.int IntKind.u32 x2.core.pc)), (SV.arr IntKind.u32 12 x2.core.csr), (SV.rd ETy.u8 x2.out), (SV.b false), (SV.v (Value.int IntKind.i64 (IntKind.wrap IntKind.i64 (v.done + (1 : Int))))), (SV.rd ETy.event (List.append v.log [(PEvent.mk (IntKind.wrap IntKind.i64 ((IntKind.wrap IntKind.i64 x0.fst.imm) - (5 : Int))) v.done time)]))]))
                  else
                    (Tree.fail))
                else
                  (Tree.fail))
              else
                (Tree.fail))
            else
              (Tree.leaf (SV.agg [(SV.arr IntKind.u32 16 x2.core.regs), (SV.v (Value.int IntKind.u32 x2.core.pc)), (SV.arr IntKind.u32 12 x2.core.csr), (SV.rd ETy.u8 x2.out), (SV.b false), (SV.v (Value.int IntKind.i64 (IntKind.wrap IntKind.i64 (v.done + (1 : Int))))), (SV.rd ETy.event v.log)]))))))
        else
          (Tree.fail))
      else
        (bif (decide ((List.length v.out) ≤ 1099511627776)) then
          (Tree.letv (okO [AT.mach]) (K.priv (PMach.mk v.core [] time v.out false) x0.fst) fun x2 =>
          (bif x2.halted then
            (Tree.letv (okO [AT.b]) (K.reads x0.fst) fun x3 =>
            (bif x3 then
              (bif (Bool.or (Bool.not (Nat.beq (List.length v.log) 0)) true) then
                (bif (Nat.ble ((0 + (List.length v.log)) * 24) 140737488355328) then
                  (bif (Nat.ble (((List.length v.log) + 1) * 24) 140737488355328) then
                    (Tree.leaf (SV.agg [(SV.arr IntKind.u32 16 x2.core.regs), (SV.v (Value.int IntKind.u32 x2.core.pc)), (SV.arr IntKind.u32 12 x2.core.csr), (SV.rd ETy.u8 x2.out), (SV.b true), (SV.v (Value.int IntKind.i64 (IntKind.wrap IntKind.i64 (v.done + (1 : Int))))), (SV.rd ETy.event (List.append v.log [(PEvent.mk (IntKind.wrap IntKind.i64 ((IntKind.wrap IntKind.i64 x0.fst.imm) - (5 : Int))) v.done time)]))]))
                  else
                    (Tree.fail))
                else
                  (Tree.fail))
              else
                (Tree.fail))
            else
              (Tree.leaf (SV.agg [(SV.arr IntKind.u32 16 x2.core.regs), (SV.v (Value.int IntKind.u32 x2.core.pc)), (SV.arr IntKind.u32 12 x2.core.csr), (SV.rd ETy.u8 x2.out), (SV.b true), (SV.v (Value.int IntKind.i64 (IntKind.wrap IntKind.i64 (v.done + (1 : Int))))), (SV.rd ETy.event v.log)]))))
          else
            (Tree.letv (okO [AT.b]) (K.reads x0.fst) fun x3 =>
            (bif x3 then
              (bif (Bool.or (Bool.not (Nat.beq (List.length v.log) 0)) true) then
                (bif (Nat.ble ((0 + (List.length v.log)) * 24) 140737488355328) then
                  (bif (Nat.ble (((List.length v.log) + 1) * 24) 140737488355328) then
                    (Tree.leaf (SV.agg [(SV.arr IntKind.u32 16 x2.core.regs), (SV.v (Value.int IntKind.u32 x2.core.pc)), (SV.arr IntKind.u32 12 x2.core.csr), (SV.rd ETy.u8 x2.out), (SV.b false), (SV.v (Value.int IntKind.i64 (IntKind.wrap IntKind.i64 (v.done + (1 : Int))))), (SV.rd ETy.event (List.append v.log [(PEvent.mk (IntKind.wrap IntKind.i64 ((IntKind.wrap IntKind.i64 x0.fst.imm) - (5 : Int))) v.done time)]))]))
                  else
                    (Tree.fail))
                else
                  (Tree.fail))
              else
                (Tree.fail))
            else
              (Tree.leaf (SV.agg [(SV.arr IntKind.u32 16 x2.core.regs), (SV.v (Value.int IntKind.u32 x2.core.pc)), (SV.arr IntKind.u32 12 x2.core.csr), (SV.rd ETy.u8 x2.out), (SV.b false), (SV.v (Value.int IntKind.i64 (IntKind.wrap IntKind.i64 (v.done + (1 : Int))))), (SV.rd ETy.event v.log)]))))))
        else
          (Tree.fail)))
    else
      (Tree.leaf (SV.agg [(SV.arr IntKind.u32 16 v.core.regs), (SV.v (Value.int IntKind.u32 v.core.pc)), (SV.arr IntKind.u32 12 v.core.csr), (SV.rd ETy.u8 v.out), (SV.v (Value.bool v.halted)), (SV.v (Value.int IntKind.i64 v.done)), (SV.rd ETy.event v.log)]))))
  else
    (Tree.leaf (SV.agg [(SV.arr IntKind.u32 16 v.core.regs), (SV.v (Value.int IntKind.u32 v.core.pc)), (SV.arr IntKind.u32 12 v.core.csr), (SV.rd ETy.u8 v.out), (SV.v (Value.bool v.halted)), (SV.v (Value.int IntKind.i64 v.done)), (SV.rd ETy.event v.log)]))) := by kernel_rfl
theorem a_ref19_Do (v : PVcpu) (w : Int) (time : Int) (hpre : v.out.length ≤ 1099511627776 ∧ v.log.length ≤ 1099511627776) (ok_v : okVcpu v) (ok_w : okI .u32 w) (ok_time : okI .u64 time) : (evF E_ref19_Do 60 15 (encArgs [.vcpu, .i .u32, .i .u64] (v, w, time, ()))).ends fun out_ => decO [.vcpu] out_ = some (K.emu v w time) := by
  rw [t_ref19_Do, Tree.ends_holds]
  have e1 : K.isPriv w = true → K.emu v w time = (let i := (K.decode w).1; let m := K.priv (K.vmach v [] time) i; { core := m.core, out := m.out, halted := m.halted, done := K.inc v.done, log := if K.reads i = true then v.log ++ [K.seen i v.done time] else v.log }) := fun h => by unfold K.emu; rw [if_pos h]
  have e2 : K.isPriv w = false → K.emu v w time = v := fun h => by unfold K.emu; rw [if_neg (by rw [h]; decide)]
  simp only [K.vmach, K.isPriv] at e1 e2
  have hk : K.reads (K.decode w).1 = true → IntKind.i64.wrap (IntKind.i64.wrap (K.decode w).1.imm - 5) = (if (K.decode w).1.imm = 8 then 3 else 2) := fun h => by
    simp only [K.reads, Bool.and_eq_true, Bool.or_eq_true, beq_iff_eq] at h
    rcases h.2 with h | h <;> rw [h] <;> decide
  simp only [Tree.holds_loop, Tree.holds_next, if_true, Tree.holds_cond, Tree.holds_letv, Tree.holds_leaf, Tree.holds_fail, decO, decA, decTup, decMach, decCore, decTrap, decInstr, decPart, decGuest, decConf, decEvent, decVcpu, bytesS, boolS, eventsS, intsS, guestsS, vcpusS, rowS, castL, Option.bind_some, Option.map_some, Option.some.injEq, Nat.beq_refl, beq_self_eq_true, Bool.and_self, cond_true, cond_false, eq_self, beq_iff_eq, beq_eq_false_iff_ne, bne_iff_ne, bne_eq_false_iff_eq, ne_eq, decide_eq_true_eq, decide_eq_false_iff_not, ble_true, ble_false, inRange_iff, inRange_false, List.drop_zero, Int.ofNat_eq_natCast, Int.toNat_natCast, List.take_length, List.append_eq, Bool.and_eq_true, decide_true, and_true, true_and, K.vwith, K.vmach, wrap_inc ok_v.done]
  repeat' (first | refine drop_ok ?_ | intro _ | with_reducible apply And.intro)
  all_goals first | omega | (have q := hk (by assumption); rw [e1 (by simp_all)]; clear e1 e2 hk; simp_all [K.seen]; done) | (rw [e1 (by simp_all)]; clear e1 e2 hk; simp_all; done) | (rw [e2 (by simp_all)]; done) | (clear e1 e2 hk; simp_all; done) | (clear e1 e2 hk; simp_all; omega) | trace_state
  
theorem c_ref19_Do : SpecOk EB 15 S_ref19_Do := spec_sig ok_ref19_Do (n := 60) fun ⟨v, w, time, ⟨⟩⟩ h hok => a_ref19_Do v w time (of_decide_eq_true h) (ok_vcpu (okSL_head hok)) (ok_int (okSL_head (okSL_tail hok))) (ok_int (okSL_head (okSL_tail (okSL_tail hok))))

/-! ref09_Enter -/

def S_ref09_Enter : Spec := sig [.core, .trap] [.core] (fun (c, t, _) => K.enter c t)
noncomputable def E_ref09_Enter : Env := EB.adds [(92, S_ref01_Put), (67, S_ref01_Field)]

theorem ok_ref09_Enter : EnvOk E_ref09_Enter := okEB.adds (l := _) ⟨c_ref01_Put, c_ref01_Field, trivial⟩

theorem t_ref09_Enter (c : PCore) (t : PTrap) : evF E_ref09_Enter 60 76 (encArgs [.core, .trap] (c, t, ())) = 
  bif (BEq.beq t.cause (0 : Int)) then
    (Tree.leaf (SV.agg [(SV.arr IntKind.u32 16 c.regs), (SV.v (Value.int IntKind.u32 c.pc)), (SV.arr IntKind.u32 12 c.csr)]))
  else
    (Tree.letv (okO [(AT.i IntKind.u32)]) (K.field (List.getD c.csr 0 (0 : Int)) (0 : Int) (1 : Int)) fun x0 =>
    (Tree.letv (okO [(AT.i IntKind.u32)]) (K.field (List.getD c.csr 0 (0 : Int)) (1 : Int) (1 : Int)) fun x1 =>
    (Tree.letv (okO [(AT.i IntKind.u32)]) (K.bput (List.getD c.csr 0 (0 : Int)) (0 : Int) (4 : Int) (IntKind.wrap IntKind.u32 ((IntKind.wrap IntKind.u32 ((1 : Int) + (IntKind.wrap IntKind.u32 ((4 : Int) * x0)))) + (IntKind.wrap IntKind.u32 ((8 : Int) * x1))))) fun x2 =>
    (Tree.leaf (SV.agg [(SV.arr IntKind.u32 16 c.regs), (SV.v (Value.int IntKind.u32 (List.getD (List.set (List.set (List.set (List.set c.csr 0 x2) 1 c.pc) 2 (IntKind.wrap IntKind.u32 t.cause)) 3 t.tval) 4 (0 : Int)))), (SV.arr IntKind.u32 12 (List.set (List.set (List.set (List.set c.csr 0 x2) 1 c.pc) 2 (IntKind.wrap IntKind.u32 t.cause)) 3 t.tval))]))))) := by kernel_rfl
theorem a_ref09_Enter (c : PCore) (t : PTrap) (ok_c : okCore c) (ok_t : okTrap t) : (evF E_ref09_Enter 60 76 (encArgs [.core, .trap] (c, t, ()))).ends fun out_ => decO [.core] out_ = some (K.enter c t) := by
  rw [t_ref09_Enter, Tree.ends_holds]
  obtain ⟨s0, s1⟩ := ok_c.csr.u32 (i := 0) (by omega)
  obtain ⟨a0, a1, a2, a3, a4, a5, a6, a7, a8, a9, a10, a11, hc⟩ := list12 ok_c.csr.1
  have hs : c.csr.getD 0 0 = a0 := by rw [hc]; rfl
  rw [hs] at s0 s1
  simp only [Tree.holds_loop, Tree.holds_next, if_true, Tree.holds_cond, Tree.holds_letv, Tree.holds_leaf, Tree.holds_fail, decO, decA, decTup, decMach, decCore, decTrap, decInstr, decPart, decGuest, decConf, decEvent, decVcpu, bytesS, boolS, eventsS, intsS, guestsS, vcpusS, rowS, castL, Option.bind_some, Option.map_some, Option.some.injEq, Nat.beq_refl, beq_self_eq_true, Bool.and_self, cond_true, cond_false, eq_self, beq_iff_eq, beq_eq_false_iff_ne, bne_iff_ne, bne_eq_false_iff_eq, ne_eq, decide_eq_true_eq, decide_eq_false_iff_not, ble_true, ble_false, inRange_iff, inRange_false, K.enter, hc, wrap32]
  simp only [List.set_cons_zero, List.set_cons_succ, List.getD_cons_zero, List.getD_cons_succ]
  refine ⟨fun h => ?_, fun h => ?_⟩
  · rw [if_pos h, ← hc]
  rw [if_neg h]
  unfold K.enterS
  have f0 : K.field a0 0 1 = a0 % 2 := by simp [K.field, K.pow]
  have f1 : K.field a0 1 1 = a0 / 2 % 2 := by simp [K.field, K.pow]
  have p : ∀ x v : Int, K.bput x 0 4 v = ((16 * (x.toNat / 16) + v.toNat % 16 : Nat) : Int) := fun x v => by simp [K.bput, Nat.mod_one]
  rw [f0, f1, p]
  intro _ _ _
  simp only [PCore.mk.injEq, List.cons.injEq, and_true, true_and]
  show @Eq Int _ _
  omega
  
theorem c_ref09_Enter : SpecOk EB 76 S_ref09_Enter := spec_sig ok_ref09_Enter (n := 60) fun ⟨c, t, ⟨⟩⟩ h hok => a_ref09_Enter c t (ok_core (okSL_head hok)) (ok_trap (okSL_head (okSL_tail hok)))

/-! ref20_Do -/

def S_ref20_Do : Spec := sig [.vcpu, .trap] [.vcpu] (fun (v, t, _) => K.reflect v t)
noncomputable def E_ref20_Do : Env := EB.adds [(76, S_ref09_Enter)]

theorem ok_ref20_Do : EnvOk E_ref20_Do := okEB.adds (l := _) ⟨c_ref09_Enter, trivial⟩

theorem t_ref20_Do (v : PVcpu) (t : PTrap) : evF E_ref20_Do 60 47 (encArgs [.vcpu, .trap] (v, t, ())) = 
  bif (bne t.cause (0 : Int)) then
    (Tree.letv (okO [AT.core]) (K.enter v.core t) fun x0 =>
    (Tree.leaf (SV.agg [(SV.arr IntKind.u32 16 x0.regs), (SV.v (Value.int IntKind.u32 x0.pc)), (SV.arr IntKind.u32 12 x0.csr), (SV.rd ETy.u8 v.out), (SV.v (Value.bool v.halted)), (SV.v (Value.int IntKind.i64 (IntKind.wrap IntKind.i64 (v.done + (1 : Int))))), (SV.rd ETy.event v.log)])))
  else
    (Tree.leaf (SV.agg [(SV.arr IntKind.u32 16 v.core.regs), (SV.v (Value.int IntKind.u32 v.core.pc)), (SV.arr IntKind.u32 12 v.core.csr), (SV.rd ETy.u8 v.out), (SV.v (Value.bool v.halted)), (SV.v (Value.int IntKind.i64 v.done)), (SV.rd ETy.event v.log)])) := by kernel_rfl
theorem a_ref20_Do (v : PVcpu) (t : PTrap) (ok_v : okVcpu v) (ok_t : okTrap t) : (evF E_ref20_Do 60 47 (encArgs [.vcpu, .trap] (v, t, ()))).ends fun out_ => decO [.vcpu] out_ = some (K.reflect v t) := by
  rw [t_ref20_Do, Tree.ends_holds]
  simp only [Tree.holds_loop, Tree.holds_next, if_true, Tree.holds_cond, Tree.holds_letv, Tree.holds_leaf, Tree.holds_fail, decO, decA, decTup, decMach, decCore, decTrap, decInstr, decPart, decGuest, decConf, decEvent, decVcpu, bytesS, boolS, eventsS, intsS, guestsS, vcpusS, rowS, castL, Option.bind_some, Option.map_some, Option.some.injEq, Nat.beq_refl, beq_self_eq_true, Bool.and_self, cond_true, cond_false, eq_self, beq_iff_eq, beq_eq_false_iff_ne, bne_iff_ne, bne_eq_false_iff_eq, ne_eq, decide_eq_true_eq, decide_eq_false_iff_not, ble_true, ble_false, inRange_iff, inRange_false, K.reflect, wrap_inc ok_v.done]
  repeat' (first | refine drop_ok ?_ | intro _ | with_reducible apply And.intro)
  all_goals first | omega | (simp_all; done)
  
theorem c_ref20_Do : SpecOk EB 47 S_ref20_Do := spec_sig ok_ref20_Do (n := 60) fun ⟨v, t, ⟨⟩⟩ h hok => a_ref20_Do v t (ok_vcpu (okSL_head hok)) (ok_trap (okSL_head (okSL_tail hok)))

/-! ref21_Do -/

def S_ref21_Do : Spec := sig [.vcpu, .trap, .i .u64] [.vcpu] (fun (v, t, time, _) => K.handle v t time) (pre := fun (v, t, time, _) => decide (v.out.length ≤ 1099511627776 ∧ v.log.length ≤ 1099511627776))
noncomputable def E_ref21_Do : Env := EB.adds [(26, S_ref21_Ours), (17, S_ref19_Can), (15, S_ref19_Do), (47, S_ref20_Do)]

theorem ok_ref21_Do : EnvOk E_ref21_Do := okEB.adds (l := _) ⟨c_ref21_Ours, c_ref19_Can, c_ref19_Do, c_ref20_Do, trivial⟩

theorem t_ref21_Do (v : PVcpu) (t : PTrap) (time : Int) : evF E_ref21_Do 60 24 (encArgs [.vcpu, .trap, .i .u64] (v, t, time, ())) = 
  Tree.letv (okO [AT.b]) (K.ours t) fun x0 =>
  (bif x0 then
    (Tree.leaf (SV.agg [(SV.arr IntKind.u32 16 v.core.regs), (SV.v (Value.int IntKind.u32 v.core.pc)), (SV.arr IntKind.u32 12 v.core.csr), (SV.rd ETy.u8 v.out), (SV.v (Value.bool v.halted)), (SV.v (Value.int IntKind.i64 v.done)), (SV.rd ETy.event v.log)]))
  else
    (Tree.letv (okO [AT.b]) (K.can v t) fun x1 =>
    (bif x1 then
      (bif (decide (And ((List.length v.out) ≤ 1099511627776) ((List.length v.log) ≤ 1099511627776))) then
        (Tree.letv (okO [AT.vcpu]) (K.emu v t.tval time) fun x2 =>
        (Tree.leaf (SV.agg [(SV.arr IntKind.u32 16 x2.core.regs), (SV.v (Value.int IntKind.u32 x2.core.pc)), (SV.arr IntKind.u32 12 x2.core.csr), (SV.rd ETy.u8 x2.out), (SV.v (Value.bool x2.halted)), (SV.v (Value.int IntKind.i64 x2.done)), (SV.rd ETy.event x2.log)])))
      else
        (Tree.fail))
    else
      (Tree.letv (okO [AT.vcpu]) (K.reflect v t) fun x2 =>
      (Tree.leaf (SV.agg [(SV.arr IntKind.u32 16 x2.core.regs), (SV.v (Value.int IntKind.u32 x2.core.pc)), (SV.arr IntKind.u32 12 x2.core.csr), (SV.rd ETy.u8 x2.out), (SV.v (Value.bool x2.halted)), (SV.v (Value.int IntKind.i64 x2.done)), (SV.rd ETy.event x2.log)])))))) := by kernel_rfl
theorem a_ref21_Do (v : PVcpu) (t : PTrap) (time : Int) (hpre : v.out.length ≤ 1099511627776 ∧ v.log.length ≤ 1099511627776) (ok_v : okVcpu v) (ok_t : okTrap t) (ok_time : okI .u64 time) : (evF E_ref21_Do 60 24 (encArgs [.vcpu, .trap, .i .u64] (v, t, time, ()))).ends fun out_ => decO [.vcpu] out_ = some (K.handle v t time) := by
  rw [t_ref21_Do, Tree.ends_holds]
  simp only [Tree.holds_loop, Tree.holds_next, if_true, Tree.holds_cond, Tree.holds_letv, Tree.holds_leaf, Tree.holds_fail, decO, decA, decTup, decMach, decCore, decTrap, decInstr, decPart, decGuest, decConf, decEvent, decVcpu, bytesS, boolS, eventsS, intsS, guestsS, vcpusS, rowS, castL, Option.bind_some, Option.map_some, Option.some.injEq, Nat.beq_refl, beq_self_eq_true, Bool.and_self, cond_true, cond_false, eq_self, beq_iff_eq, beq_eq_false_iff_ne, bne_iff_ne, bne_eq_false_iff_eq, ne_eq, decide_eq_true_eq, decide_eq_false_iff_not, ble_true, ble_false, inRange_iff, inRange_false, K.handle]
  repeat' (first | refine drop_ok ?_ | intro _ | with_reducible apply And.intro)
  all_goals first | omega | (simp_all; done)
  
theorem c_ref21_Do : SpecOk EB 24 S_ref21_Do := spec_sig ok_ref21_Do (n := 60) fun ⟨v, t, time, ⟨⟩⟩ h hok => a_ref21_Do v t time (of_decide_eq_true h) (ok_vcpu (okSL_head hok)) (ok_trap (okSL_head (okSL_tail hok))) (ok_int (okSL_head (okSL_tail (okSL_tail hok))))

/-! law21_HandlerHandleMatchesReference -/

def S_law21_HandlerHandleMatchesReference : Spec := sig [.vcpu, .trap, .i .u64] [.b] (fun (v, t, time, _) => true)
noncomputable def E_law21_HandlerHandleMatchesReference : Env := EB_0_1.adds [(22, S_law21_awake), (12, S_ref16_Few), (13, S_ref16_Same), (23, S_handler_Handle), (24, S_ref21_Do), (25, S_handler_IsMonitorTrap), (26, S_ref21_Ours)]

theorem ok_law21_HandlerHandleMatchesReference : EnvOk E_law21_HandlerHandleMatchesReference := okEB_0_1.adds (l := _) ⟨c_law21_awake, (up_to_0_1 c_ref16_Few), (up_to_0_1 c_ref16_Same), c_handler_Handle, (up_to_0_1 c_ref21_Do), (up_to_0_1 c_handler_IsMonitorTrap), (up_to_0_1 c_ref21_Ours), trivial⟩

theorem t_law21_HandlerHandleMatchesReference (v : PVcpu) (t : PTrap) (time : Int) : evF E_law21_HandlerHandleMatchesReference 60 6 (encArgs [.vcpu, .trap, .i .u64] (v, t, time, ())) = 
  Tree.letv (okO [AT.b]) true fun x0 =>
  (bif x0 then
    (Tree.letv (okO [AT.b]) (K.vfew v) fun x1 =>
    (bif x1 then
      (bif (decide (And ((List.length v.out) ≤ 1099511627776) ((List.length v.log) ≤ 1099511627776))) then
        (Tree.letv (okO [AT.vcpu]) (K.handle v t time) fun x2 =>
        (bif (decide (And ((List.length v.out) ≤ 1099511627776) ((List.length v.log) ≤ 1099511627776))) then
          (Tree.letv (okO [AT.vcpu]) (K.handle v t time) fun x3 =>
          (Tree.letv (okO [AT.b]) (decide (x2 = x3)) fun x4 =>
          (bif x4 then
            (Tree.letv (okO [AT.b]) (K.ours t) fun x5 =>
            (bif x5 then
              (Tree.letv (okO [AT.b]) (K.ours t) fun x6 =>
              (bif x6 then
                (Tree.leaf (SV.b true))
              else
                (Tree.leaf (SV.b false))))
            else
              (Tree.letv (okO [AT.b]) (K.ours t) fun x6 =>
              (bif x6 then
                (Tree.leaf (SV.b false))
              else
                (Tree.leaf (SV.b true))))))
          else
            (Tree.leaf (SV.b false)))))
        else
          (Tree.fail)))
      else
        (Tree.fail))
    else
      (Tree.letv (okO [AT.b]) true fun x2 =>
      (bif x2 then
        (Tree.leaf (SV.b true))
      else
        (Tree.leaf (SV.b false))))))
  else
    (Tree.letv (okO [AT.b]) true fun x1 =>
    (bif x1 then
      (Tree.leaf (SV.b true))
    else
      (Tree.leaf (SV.b false))))) := by kernel_rfl
theorem a_law21_HandlerHandleMatchesReference (v : PVcpu) (t : PTrap) (time : Int) (ok_v : okVcpu v) (ok_t : okTrap t) (ok_time : okI .u64 time) : (evF E_law21_HandlerHandleMatchesReference 60 6 (encArgs [.vcpu, .trap, .i .u64] (v, t, time, ()))).ends fun out_ => decO [.b] out_ = some (true) := by
  rw [t_law21_HandlerHandleMatchesReference, Tree.ends_holds]
  simp only [Tree.holds_loop, Tree.holds_next, if_true, Tree.holds_cond, Tree.holds_letv, Tree.holds_leaf, Tree.holds_fail, decO, decA, decTup, decMach, decCore, decTrap, decInstr, decPart, decGuest, decConf, decEvent, decVcpu, bytesS, boolS, eventsS, intsS, guestsS, vcpusS, rowS, castL, Option.bind_some, Option.map_some, Option.some.injEq, Nat.beq_refl, beq_self_eq_true, Bool.and_self, cond_true, cond_false, eq_self, beq_iff_eq, beq_eq_false_iff_ne, bne_iff_ne, bne_eq_false_iff_eq, ne_eq, decide_eq_true_eq, decide_eq_false_iff_not, ble_true, ble_false, inRange_iff, inRange_false]
  repeat' (first | refine drop_ok ?_ | intro _ | with_reducible apply And.intro)
  all_goals (first | omega | (simp_all [K.vfew]; done) | (simp_all [K.vfew] <;> omega) | simp_all [K.vfew])
  
theorem c_law21_HandlerHandleMatchesReference : SpecOk EB_0_1 6 S_law21_HandlerHandleMatchesReference := spec_sig ok_law21_HandlerHandleMatchesReference (n := 60) fun ⟨v, t, time, ⟨⟩⟩ h hok => a_law21_HandlerHandleMatchesReference v t time (ok_vcpu (okSL_head hok)) (ok_trap (okSL_head (okSL_tail hok))) (ok_int (okSL_head (okSL_tail (okSL_tail hok))))


end Go.Proofs.YtnhokcnnhmkbhaaDoor
